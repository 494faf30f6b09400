/-
  Walks: the reference's isPlace, turn, sgn, beside, on, touch.
  Walk: the reference's ValidCell.
  Walk: the reference's Moved.
-/
import Derived.Test.YtaihplgfbepgpaaGreatDoorRegD
import Derived.Test.YtaihplgfbepgpaaGreatDoorRegS
namespace Go.Proofs.YtaihplgfbepgpaaGreatDoor
open Go.RowKit

set_option maxHeartbeats 800000 in
theorem rsgn_any (n : Int) (w : World) :
    Calls Tryz.prog 123 #[.int .i64 n] w fun e w' => w' = w ∧ e = .returned (.int .i64 (sgn n)) := by
  by_cases h : n < 0
  · have HS : Hid (sgn n = -1) := by unfold sgn; exact if_pos h
    go_enter Tryz.func123, Tryz.ntmps123
    go_wp2
    go_ret
    exact ⟨rfl, ret_int HS.out.symm⟩
  · have HS : Hid (sgn n = min n 1) := by show _ = _; unfold sgn; rw [if_neg h]; split <;> omega
    go_enter Tryz.func123, Tryz.ntmps123
    go_wp2
    go_ret
    exact ⟨rfl, ret_int HS.out.symm⟩

set_option maxHeartbeats 800000 in
theorem beside_any (a b c : Int × Int) (w : World) (ha : okP a) (hb : okP b) (hc : okP c) :
    Calls Tryz.prog 94 #[pv a, pv b, pv c] w fun e w' => Below w.heap.size w w' ∧ e = .returned (.int .i64 (sgn (trn a b c))) := by
  unfold okP at *
  obtain ⟨a1, a2⟩ := a
  obtain ⟨b1, b2⟩ := b
  obtain ⟨c1, c2⟩ := c
  unfold pv trn
  simp only at *
  have e1 : IntKind.i64.wrap (b1 - a1) = b1 - a1 := IntWalk.i64_in _ (by omega)
  have e2 : IntKind.i64.wrap (b2 - a2) = b2 - a2 := IntWalk.i64_in _ (by omega)
  have e3 : IntKind.i64.wrap (c1 - a1) = c1 - a1 := IntWalk.i64_in _ (by omega)
  have e4 : IntKind.i64.wrap (c2 - a2) = c2 - a2 := IntWalk.i64_in _ (by omega)
  have m1 := mul_in (x := b1 - a1) (y := c2 - a2) (by omega) (by omega)
  have m2 := mul_in (x := b2 - a2) (y := c1 - a1) (by omega) (by omega)
  have e5 : IntKind.i64.wrap ((b1 - a1) * (c2 - a2)) = (b1 - a1) * (c2 - a2) := IntWalk.i64_in _ (by omega)
  have e6 : IntKind.i64.wrap ((b2 - a2) * (c1 - a1)) = (b2 - a2) * (c1 - a1) := IntWalk.i64_in _ (by omega)
  have e7 : IntKind.i64.wrap ((b1 - a1) * (c2 - a2) - (b2 - a2) * (c1 - a1)) = (b1 - a1) * (c2 - a2) - (b2 - a2) * (c1 - a1) := IntWalk.i64_in _ (by omega)
  have S := fun W => rsgn_any ((b1 - a1) * (c2 - a2) - (b2 - a2) * (c1 - a1)) W
  go_enter Tryz.func94, Tryz.ntmps94
  go_wp2_with fail
  refine (S _).mono ?_
  rintro e w1 ⟨rfl, rfl⟩
  go_wp2
  go_ret
  exact ⟨((below_alloc w _).alloc (by simp) _).alloc (by simp; omega) _, rfl⟩

set_option maxHeartbeats 800000 in
theorem rturn_any (a b c : Int × Int) (w : World) (ha : okP a) (hb : okP b) (hc : okP c) :
    Calls Tryz.prog 57 #[pv a, pv b, pv c] w fun e w' => Below w.heap.size w w' ∧ e = .returned (.int .i64 (trn a b c)) := by
  unfold okP at *
  obtain ⟨a1, a2⟩ := a
  obtain ⟨b1, b2⟩ := b
  obtain ⟨c1, c2⟩ := c
  unfold pv trn
  simp only at *
  have ex : (b1 - a1) * (c2 - a2) - (b2 - a2) * (c1 - a1) = (b1 - a1) * (c2 - b2) - (b2 - a2) * (c1 - b1) := by
    grind
  rw [ex]
  clear ex
  have e1 : IntKind.i64.wrap (b1 - a1) = b1 - a1 := IntWalk.i64_in _ (by omega)
  have e2 : IntKind.i64.wrap (b2 - a2) = b2 - a2 := IntWalk.i64_in _ (by omega)
  have e3 : IntKind.i64.wrap (c1 - b1) = c1 - b1 := IntWalk.i64_in _ (by omega)
  have e4 : IntKind.i64.wrap (c2 - b2) = c2 - b2 := IntWalk.i64_in _ (by omega)
  have m1 := mul_in (x := b1 - a1) (y := c2 - b2) (by omega) (by omega)
  have m2 := mul_in (x := b2 - a2) (y := c1 - b1) (by omega) (by omega)
  have e5 : IntKind.i64.wrap ((b1 - a1) * (c2 - b2)) = (b1 - a1) * (c2 - b2) := IntWalk.i64_in _ (by omega)
  have e6 : IntKind.i64.wrap ((b2 - a2) * (c1 - b1)) = (b2 - a2) * (c1 - b1) := IntWalk.i64_in _ (by omega)
  have e7 : IntKind.i64.wrap ((b1 - a1) * (c2 - b2) - (b2 - a2) * (c1 - b1)) = (b1 - a1) * (c2 - b2) - (b2 - a2) * (c1 - b1) := IntWalk.i64_in _ (by omega)
  go_enter Tryz.func57, Tryz.ntmps57
  go_wp2
  go_ret
  exact ⟨((below_alloc w _).alloc (by simp) _).alloc (by simp; omega) _, rfl⟩

set_option maxHeartbeats 1600000 in
theorem isPlace_any (p : Int × Int) (w : World) (h1 : in64 p.1) (h2 : in64 p.2) (q : Bool) (hq : decide (okP p) = q) :
    Calls Tryz.prog 56 #[pv p] w fun e w' => Below w.heap.size w w' ∧ e = .returned (.bool q) := by
  have HQ : Hid (q = true ↔ okP p) := by rw [← hq]; exact decide_eq_true_iff
  clear hq
  obtain ⟨x, y⟩ := p
  unfold in64 at *
  unfold pv
  simp only at *
  go_enter Tryz.func56, Tryz.ntmps56
  go_wp2
  all_goals
    go_ret
    refine ⟨below_alloc _ _, ?_⟩
    refine ret_boolR ?_
    rw [HQ.out]
    unfold okP
    simp only [decide_eq_true_eq, Bool.false_eq_true, false_iff]
    omega

set_option maxHeartbeats 1600000 in
theorem ron_any (a b c : Int × Int) (w : World) (q : Bool) (hq : decide (onP a b c) = q) :
    Calls Tryz.prog 95 #[pv a, pv b, pv c] w fun e w' => Below w.heap.size w w' ∧ e = .returned (.bool q) := by
  have HQ : Hid (q = true ↔ onP a b c) := by rw [← hq]; exact decide_eq_true_iff
  clear hq
  obtain ⟨a1, a2⟩ := a
  obtain ⟨b1, b2⟩ := b
  obtain ⟨c1, c2⟩ := c
  unfold pv
  simp only
  go_enter Tryz.func95, Tryz.ntmps95
  go_wp2
  all_goals
    go_ret
    refine ⟨((below_alloc w _).alloc (by simp) _).alloc (by simp; omega) _, ?_⟩
    refine ret_boolR ?_
    rw [HQ.out]
    unfold onP
    simp only [decide_eq_true_eq, Bool.false_eq_true, false_iff]
    omega

set_option maxRecDepth 100000 in
set_option maxHeartbeats 6400000 in
theorem rtouch_any (a b c d : Int × Int) (w : World) (ha : okP a) (hb : okP b) (hc : okP c) (hd : okP d) (z : Bool) (hz : decide (tch a b c d) = z) :
    Calls Tryz.prog 58 #[pv a, pv b, pv c, pv d] w fun e w' => Below w.heap.size w w' ∧ e = .returned (.bool z) := by
  have HZ : Hid (z = true ↔ tch a b c d) := by rw [← hz]; exact decide_eq_true_iff
  clear hz
  have T1 := Lib.hid (fun W => beside_any a b c W ha hb hc)
  have T2 := Lib.hid (fun W => beside_any a b d W ha hb hd)
  have T3 := Lib.hid (fun W => beside_any c d a W hc hd ha)
  have T4 := Lib.hid (fun W => beside_any c d b W hc hd hb)
  obtain ⟨o1, ho1⟩ : ∃ o, decide (onP a b c) = o := ⟨_, rfl⟩
  obtain ⟨o2, ho2⟩ : ∃ o, decide (onP a b d) = o := ⟨_, rfl⟩
  obtain ⟨o3, ho3⟩ : ∃ o, decide (onP c d a) = o := ⟨_, rfl⟩
  obtain ⟨o4, ho4⟩ : ∃ o, decide (onP c d b) = o := ⟨_, rfl⟩
  have O1 := Lib.hid (fun W => ron_any a b c W o1 ho1)
  have O2 := Lib.hid (fun W => ron_any a b d W o2 ho2)
  have O3 := Lib.hid (fun W => ron_any c d a W o3 ho3)
  have O4 := Lib.hid (fun W => ron_any c d b W o4 ho4)
  have HZ2 : Hid (z = true ↔ (sgn (trn a b c) * sgn (trn a b d) < 0 ∧ sgn (trn c d a) * sgn (trn c d b) < 0) ∨ (sgn (trn a b c) = 0 ∧ o1 = true) ∨ (sgn (trn a b d) = 0 ∧ o2 = true) ∨ (sgn (trn c d a) = 0 ∧ o3 = true) ∨ (sgn (trn c d b) = 0 ∧ o4 = true)) := by
    show _ ↔ _
    rw [HZ.out, ← ho1, ← ho2, ← ho3, ← ho4]
    simp only [decide_eq_true_eq, tch]
  clear ho1 ho2 ho3 ho4 HZ ha hb hc hd
  obtain ⟨a1, a2⟩ := a
  obtain ⟨b1, b2⟩ := b
  obtain ⟨c1, c2⟩ := c
  obtain ⟨d1, d2⟩ := d
  unfold pv at *
  simp only at T1 T2 T3 T4 O1 O2 O3 O4 ⊢
  have p1 := sgn_in (trn (a1, a2) (b1, b2) (c1, c2))
  have p2 := sgn_in (trn (a1, a2) (b1, b2) (d1, d2))
  have p3 := sgn_in (trn (c1, c2) (d1, d2) (a1, a2))
  have p4 := sgn_in (trn (c1, c2) (d1, d2) (b1, b2))
  have u1 := unit_mul p1 p2
  have u2 := unit_mul p3 p4
  generalize sgn (trn (a1, a2) (b1, b2) (c1, c2)) = s1 at *
  generalize sgn (trn (a1, a2) (b1, b2) (d1, d2)) = s2 at *
  generalize sgn (trn (c1, c2) (d1, d2) (a1, a2)) = s3 at *
  generalize sgn (trn (c1, c2) (d1, d2) (b1, b2)) = s4 at *
  have w1 : IntKind.i64.wrap (s1 * s2) = s1 * s2 := IntWalk.i64_in _ (by omega)
  have w2 : IntKind.i64.wrap (s3 * s4) = s3 * s4 := IntWalk.i64_in _ (by omega)
  go_enter Tryz.func58, Tryz.ntmps58
  go_wp2_with fail
  refine wp_name (fun W => Quad 50 (.int .i64 a1) (.int .i64 a2) (.int .i64 b1) (.int .i64 b2) (.int .i64 c1) (.int .i64 c2) (.int .i64 d1) (.int .i64 d2) w W)
    ⟨(((below_alloc w _).alloc (by simp) _).alloc (by simp; omega) _).alloc (by simp; omega) _, (((Bk.new _ _ _).alloc _).alloc _).alloc _, (by simpa using (((Bk.new (w.alloc _) _ _).alloc _).alloc _)), (by simpa using ((Bk.new ((w.alloc _).alloc _) _ _).alloc _)), (by simpa using (Bk.new (((w.alloc _).alloc _).alloc _) _ _))⟩ ?_
  rintro W q0
  go_region_held3 (fun W => W.cell? ⟨w.heap.size, 0, none⟩ = some (.int .i64 a1) ∧ W.cell? ⟨w.heap.size, 1, none⟩ = some (.int .i64 a2) ∧ W.cell? ⟨w.heap.size + 1, 0, none⟩ = some (.int .i64 b1) ∧ W.cell? ⟨w.heap.size + 1, 1, none⟩ = some (.int .i64 b2) ∧ W.cell? ⟨w.heap.size + 1 + 1, 0, none⟩ = some (.int .i64 c1) ∧ W.cell? ⟨w.heap.size + 1 + 1, 1, none⟩ = some (.int .i64 c2) ∧ W.cell? ⟨w.heap.size + 1 + 1 + 1, 0, none⟩ = some (.int .i64 d1) ∧ W.cell? ⟨w.heap.size + 1 + 1 + 1, 1, none⟩ = some (.int .i64 d2))
    (first | assumption | with_reducible exact q4.cells | with_reducible exact q3.cells | with_reducible exact q2.cells | with_reducible exact q1.cells | with_reducible exact q0.drew.cells)
    (first
      | (go_at_call 94; (with_reducible refine (T1.out _).mono ?_); rintro e w1 ⟨hb1, rfl⟩; have q1 := q0.drew.next hb1)
      | (go_at_call 94; (with_reducible refine (T2.out _).mono ?_); rintro e w2 ⟨hb2, rfl⟩; have q2 := q1.next hb2)
      | (go_at_call 94; (with_reducible refine (T3.out _).mono ?_); rintro e w3 ⟨hb3, rfl⟩; have q3 := q2.next hb3)
      | (go_at_call 94; (with_reducible refine (T4.out _).mono ?_); rintro e w4 ⟨hb4, rfl⟩; have q4 := q3.next hb4))
  clear T1 T2 T3 T4 q0 q1 q2 q3 hb1 hb2 hb3 hb4 p1 p2 p3 p4
  obtain ⟨g1, g2, g3, g4, g5, g6, g7, g8⟩ := q4.cells
  go_wp2_with (first
    | (go_at_call 95; (with_reducible refine (O1.out _).mono ?_); rintro e w5 ⟨hb5, rfl⟩; have q5 := Quad.next (by assumption) hb5; clear hb5; obtain ⟨h1, h2, h3, h4, h5, h6, h7, h8⟩ := q5.cells)
    | (go_at_call 95; (with_reducible refine (O2.out _).mono ?_); rintro e w5 ⟨hb5, rfl⟩; have q5 := Quad.next (by assumption) hb5; clear hb5; obtain ⟨h1, h2, h3, h4, h5, h6, h7, h8⟩ := q5.cells)
    | (go_at_call 95; (with_reducible refine (O3.out _).mono ?_); rintro e w5 ⟨hb5, rfl⟩; have q5 := Quad.next (by assumption) hb5; clear hb5; obtain ⟨h1, h2, h3, h4, h5, h6, h7, h8⟩ := q5.cells)
    | (go_at_call 95; (with_reducible refine (O4.out _).mono ?_); rintro e w5 ⟨hb5, rfl⟩; have q5 := Quad.next (by assumption) hb5; clear hb5; obtain ⟨h1, h2, h3, h4, h5, h6, h7, h8⟩ := q5.cells))
  all_goals
    go_ret
    refine ⟨Quad.below (by assumption), ret_boolR ?_⟩
    rw [HZ2.out]
    grind
end Go.Proofs.YtaihplgfbepgpaaGreatDoor

namespace Go.Proofs.YtaihplgfbepgpaaGreatDoor
open Go.RowKit

/-- A step of a region whose operations are written out. -/
theorem takeH {P : Program} {md : Region.Mode} {Q : Exit → Act → World → Prop} {S : World → Prop} {l : List Oper} {i : Nat} {oi : Oper} {v : Value} {fuel : Nat} {listed : Array Bool} {a : Act} {w : World} (hi : l[i]? = some oi)
    (hs : Region.noSelect l.toArray = true) (hf : Region.free md l.toArray listed i = true) (hr : (Region.ready md l.toArray listed).contains i = true)
    (hQ : ∀ c a w, Q (.panic c) (a.put oi.dst v) w → Q (.panic c) a w) (hw : Region.wanted oi (yielded l.toArray a.tmps) = true) (hS : S w) (hy : ∀ w, S w → (execOp a.eval oi).run P w = .ok (.value v) w)
    (h : wpAnyH P md l.toArray Q S fuel (listed.setIfInBounds i true) (a.put oi.dst v) w) : wpAnyH P md l.toArray Q S (fuel + 1) listed a w :=
  wpAnyH_take (by simpa using hi) hs hf hr hQ (.inl ⟨hw, hy⟩) hS h
/-- An operation that its guard leaves out. -/
theorem skipH {P : Program} {md : Region.Mode} {Q : Exit → Act → World → Prop} {S : World → Prop} {l : List Oper} {i : Nat} {oi : Oper} {fuel : Nat} {listed : Array Bool} {a : Act} {w : World} (hi : l[i]? = some oi)
    (hs : Region.noSelect l.toArray = true) (hf : Region.free md l.toArray listed i = true) (hr : (Region.ready md l.toArray listed).contains i = true)
    (hQ : ∀ c a w, Q (.panic c) (a.put oi.dst undef) w → Q (.panic c) a w) (hw : Region.wanted oi (yielded l.toArray a.tmps) = false) (hS : S w)
    (h : wpAnyH P md l.toArray Q S fuel (listed.setIfInBounds i true) (a.put oi.dst undef) w) : wpAnyH P md l.toArray Q S (fuel + 1) listed a w :=
  wpAnyH_take (by simpa using hi) hs hf hr hQ (.inr ⟨hw, rfl⟩) hS h

set_option maxRecDepth 100000 in
set_option maxHeartbeats 6400000 in
theorem rvalid_any (l : List Pl) (m : Bool) (v : Value) (w : World) (h : IsC w w.heap.size v l m) (q : Bool) (hq : q = true ↔ validC l) :
    Calls Tryz.prog 27 #[v] w fun e w' => Below w.heap.size w w' ∧ e = .returned (.bool q) := by
  obtain ⟨A, c, rfl, hc, hcm, hin, hr⟩ := h
  unfold maxLen at hcm
  have hB0 := below_alloc w (.cells #[.slice A l.length c, .bool m] 33)
  by_cases hlen : 3 ≤ l.length ∧ l.length ≤ 8
  · obtain ⟨h3, h8⟩ := hlen
    have hr0 := (hr.alloc (Nat.le_refl _) (.cells #[.slice A l.length c, .bool m] 33)).more (B' := (w.alloc (.cells #[.slice A l.length c, .bool m] 33)).heap.size) (by simp)
    have k0 := Bk.new w 33 #[.slice A l.length c, .bool m]
    have HQ : Hid (q = true ↔ (∀ i, i < l.length → okP (cn l i)) ∧ (∀ i, i < l.length → 0 < trn (cn l i) (cn l ((i + 1) % l.length)) (cn l ((i + 2) % l.length))) ∧
      (∀ i, i < l.length → ∀ k, i + 2 ≤ k → k < l.length → (k + 1) % l.length ≠ i → ¬ tch (cn l i) (cn l (i + 1)) (cn l k) (cn l ((k + 1) % l.length)))) := by
      show _ ↔ _
      rw [hq]
      constructor
      · intro x
        exact ⟨fun i hi => cn_ok x.2.2.1 hi, fun i hi => (x.2.2.2 i hi).1, fun i hi => (x.2.2.2 i hi).2⟩
      · intro x
        refine ⟨h3, h8, fun p hp => ?_, fun i hi => ⟨x.2.1 i hi, x.2.2 i hi⟩⟩
        obtain ⟨i, hi⟩ := List.getElem?_of_mem hp
        have hlt := (List.getElem?_eq_some_iff.1 hi).1
        have h5 := x.1 i hlt
        rw [cn_at hlt] at hi
        injection hi with hi
        rw [← hi]
        exact h5
    have hin' : ∀ i, i < l.length → in64 (cn l i).1 ∧ in64 (cn l i).2 := fun i hi => hin _ (List.mem_of_getElem? (cn_at hi))
    clear hq hin hr
    go_enter Tryz.func27, Tryz.ntmps27
    go_wp2_with fail
    obtain ⟨b0, hb0⟩ : ∃ b, b = w.heap.size := ⟨_, rfl⟩
    rw [← hb0] at k0
    generalize (w.alloc (.cells #[.slice A l.length c, .bool m] 33)) = w0 at *
    rw [← hb0]
    clear hb0
    have lt0 := k0.lt
    obtain ⟨x0, x1⟩ := bk2 k0
    obtain ⟨n, hn⟩ : ∃ n, l.length = n := ⟨_, rfl⟩
    have HN := Lib.hid hn
    rw [hn] at h3 h8 hc HQ k0 x0 hin' ⊢
    go_wp2_with fail
    go_loopw [4] (fun x wr => ∃ i : Nat, i ≤ n ∧ x = .int .i64 i ∧ (∀ j, j < i → okP (cn l j)) ∧ Below w0.heap.size w0 wr) (fun x _ => n - (intOf x).toNat)
    case atStart => exact ⟨0, Nat.zero_le _, rfl, (fun j hj => absurd hj (Nat.not_lt_zero _)), Below.refl _ _⟩
    case round =>
      obtain ⟨i, hi, rfl, hall, hB⟩ := hrel
      have kk := k0.below hB lt0
      obtain ⟨x0, x1⟩ := bk2 kk
      rcases Nat.lt_or_ge i n with hlt | hge
      · obtain ⟨ad, rfl, hab, d1, d2⟩ := (hr0.below hB).place (cn_at (by rw [hn]; exact hlt))
        obtain ⟨z, hz⟩ : ∃ z, decide (okP (cn l i)) = z := ⟨_, rfl⟩
        have PL := isPlace_any (cn l i) wr (hin' i hlt).1 (hin' i hlt).2 z hz
        have HZ := Lib.hid hz
        have HA := Lib.hid hall
        unfold pv at PL
        clear hz hall
        go_wp2_with fail
        refine PL.mono ?_
        rintro e w1 ⟨hb1, rfl⟩
        have hB1 := hB.trans (hb1.mono hB.size)
        clear PL d1 d2 hb1 hB
        cases z
        · have hqf : q = false := by
            cases hqq : q
            · rfl
            · exact absurd ((HQ.out.1 hqq).1 i hlt) (of_decide_eq_false HZ.out)
          subst hqf
          go_wp2
          go_ret
          exact ⟨hB0.trans (hB1.mono hB0.size), rfl⟩
        · go_wp2
          go_roundw
          case rel =>
            refine ⟨i + 1, by omega, by go_num, fun j hj => ?_, hB1⟩
            rcases Nat.lt_or_ge j i with h5 | h5
            · exact HA.out j h5
            · have : j = i := by omega
              subst this
              exact of_decide_eq_true HZ.out
          case measure => simp [intOf]; omega
      · have hin : n = i := by omega
        subst hin
        have hok' : ∀ p ∈ l, okP p := fun p hp => by
          obtain ⟨i, hi⟩ := List.getElem?_of_mem hp
          have hlt := (List.getElem?_eq_some_iff.1 hi).1
          have h5 := hall i (by rw [← hn]; exact hlt)
          rw [cn_at hlt] at hi
          injection hi with hi
          rw [← hi]
          exact h5
        have HOK := Lib.hid hok'
        have HA := Lib.hid hall
        have hBs := hB
        clear hall hin' hok'
        go_wp2_with fail
        go_loopw [5] (fun x wr => ∃ i : Nat, i ≤ n ∧ x = .int .i64 i ∧ (∀ j, j < i → 0 < trn (cn l j) (cn l ((j + 1) % n)) (cn l ((j + 2) % n))) ∧ Below w0.heap.size w0 wr) (fun x _ => n - (intOf x).toNat)
        case atStart => exact ⟨0, Nat.zero_le _, rfl, (fun j hj => absurd hj (Nat.not_lt_zero _)), hBs⟩
        case round =>
          clear hBs hB x0 x1 kk
          obtain ⟨i, hi, rfl, hall, hB⟩ := hrel
          have kk := k0.below hB lt0
          obtain ⟨x0, x1⟩ := bk2 kk
          rcases Nat.lt_or_ge i n with hlt | hge
          · obtain ⟨j1, hj1⟩ : ∃ j, j = (i + 1) % n := ⟨_, rfl⟩
            obtain ⟨j2, hj2⟩ : ∃ j, j = (i + 2) % n := ⟨_, rfl⟩
            have hl1 : j1 < n := by rw [hj1]; exact Nat.mod_lt _ (by omega)
            have hl2 : j2 < n := by rw [hj2]; exact Nat.mod_lt _ (by omega)
            have m1 : ((i : Int) + 1).tmod n = (j1 : Int) := by rw [hj1]; rfl
            have m2 : ((i : Int) + 2).tmod n = (j2 : Int) := by rw [hj2]; rfl
            have n0 : ¬ n = 0 := by omega
            have ww1 : IntKind.i64.wrap ((i : Int) + 1) = (i : Int) + 1 := IntWalk.i64_in _ (by omega)
            have ww2 : IntKind.i64.wrap ((i : Int) + 2) = (i : Int) + 2 := IntWalk.i64_in _ (by omega)
            obtain ⟨ad, rfl, hab, d1, d2⟩ := (hr0.below hB).place (cn_at (by rw [hn]; exact hlt))
            obtain ⟨d3, d4⟩ := (hr0.below hB).place' (cn_at (l := l) (i := j1) (by rw [hn]; exact hl1))
            obtain ⟨d5, d6⟩ := (hr0.below hB).place' (cn_at (l := l) (i := j2) (by rw [hn]; exact hl2))
            have T := fun W => rturn_any (cn l i) (cn l j1) (cn l j2) W (cn_ok HOK.out (by rw [hn]; exact hlt)) (cn_ok HOK.out (by rw [hn]; exact hl1)) (cn_ok HOK.out (by rw [hn]; exact hl2))
            have HJ1 := Lib.hid hj1
            have HJ2 := Lib.hid hj2
            have HT0 := Lib.hid hall
            clear hj1 hj2 hall
            unfold pv at T
            go_wp2_with fail
            go_region_held3 (fun W => W.cell? ⟨b0, 0, none⟩ = some (.slice (some ad) n c) ∧ W.cell? (ad.add (i * 2)) = some (.int .i64 (cn l i).1) ∧ W.cell? ⟨(ad.add (i * 2)).block, (ad.add (i * 2)).off + 1, none⟩ = some (.int .i64 (cn l i).2) ∧ W.cell? (ad.add (j1 * 2)) = some (.int .i64 (cn l j1).1) ∧ W.cell? ⟨(ad.add (j1 * 2)).block, (ad.add (j1 * 2)).off + 1, none⟩ = some (.int .i64 (cn l j1).2) ∧ W.cell? (ad.add (j2 * 2)) = some (.int .i64 (cn l j2).1) ∧ W.cell? ⟨(ad.add (j2 * 2)).block, (ad.add (j2 * 2)).off + 1, none⟩ = some (.int .i64 (cn l j2).2))
              (first | exact ⟨x0, d1, d2, d3, d4, d5, d6⟩ | exact ⟨f0, f1, f2, f3, f4, f5, f6⟩)
              (first | (go_at_call 57; (with_reducible refine (T _).mono ?_); rintro e w2 ⟨hb2, rfl⟩; have hr2 := (hr0.below hB).drew.below (hb2.mono hB.size); have f0 := (bk2 (kk.drew.next' hb2)).1; obtain ⟨f1, f2⟩ := hr2.place' (cn_at (l := l) (i := i) (by rw [hn]; exact hlt)); obtain ⟨f3, f4⟩ := hr2.place' (cn_at (l := l) (i := j1) (by rw [hn]; exact hl1)); obtain ⟨f5, f6⟩ := hr2.place' (cn_at (l := l) (i := j2) (by rw [hn]; exact hl2))))
            have hB2 := hB.drew.trans (hb2.mono hB.size)
            clear f1 f2 f3 f4 f5 f6 hr2 hb2 T d1 d2 d3 d4 d5 d6 hB m1 m2 x0 x1 kk
            have ht : (trn (cn l i) (cn l j1) (cn l j2) ≤ 0 ∧ q = false) ∨ ¬ (trn (cn l i) (cn l j1) (cn l j2) ≤ 0) := by
              rcases Int.lt_or_le 0 (trn (cn l i) (cn l j1) (cn l j2)) with h0 | h0
              · exact .inr (by omega)
              · refine .inl ⟨h0, ?_⟩
                cases hqq : q
                · rfl
                · have := (HQ.out.1 hqq).2.1 i hlt
                  rw [← HJ1.out, ← HJ2.out] at this
                  omega
            rcases ht with ⟨ht, rfl⟩ | ht
            · go_wp2
              go_ret
              exact ⟨hB0.trans (hB2.mono hB0.size), rfl⟩
            · have HT : Hid (0 < trn (cn l i) (cn l j1) (cn l j2)) := (show 0 < trn (cn l i) (cn l j1) (cn l j2) by omega)
              obtain ⟨tt, htt⟩ : ∃ tt, trn (cn l i) (cn l j1) (cn l j2) = tt := ⟨_, rfl⟩
              rw [htt] at ht ⊢
              clear htt
              go_wp2
              go_roundw
              case rel =>
                refine ⟨i + 1, by omega, by go_num, fun j hj => ?_, hB2⟩
                rcases Nat.lt_or_ge j i with h5 | h5
                · exact HT0.out j h5
                · have : j = i := by omega
                  subst this
                  rw [← HJ1.out, ← HJ2.out]; exact HT.out
              case measure => simp [intOf]; omega
          · have hin : n = i := by omega
            subst hin
            have HT := Lib.hid hall
            have hBs := hB
            clear hall
            go_wp2_with fail
            go_loopw [6] (fun x wr => ∃ i : Nat, i ≤ n ∧ x = .int .i64 i ∧ (∀ j, j < i → ∀ k, j + 2 ≤ k → k < n → (k + 1) % n ≠ j → ¬ tch (cn l j) (cn l (j + 1)) (cn l k) (cn l ((k + 1) % n))) ∧ Below w0.heap.size w0 wr) (fun x _ => n - (intOf x).toNat)
            case atStart => exact ⟨0, Nat.zero_le _, rfl, (fun j hj => absurd hj (Nat.not_lt_zero _)), hBs⟩
            case round =>
              clear hBs hB x0 x1 kk
              obtain ⟨i, hi, rfl, hall, hB⟩ := hrel
              have HO0 := Lib.hid hall
              clear hall
              rcases Nat.lt_or_ge i n with hlt | hge
              · go_wp2_with fail
                go_loopw [7] (fun x wq => ∃ k : Nat, i + 2 ≤ k ∧ k ≤ n + 2 ∧ x = .int .i64 k ∧ (∀ k', i + 2 ≤ k' → k' < k → k' < n → (k' + 1) % n ≠ i → ¬ tch (cn l i) (cn l (i + 1)) (cn l k') (cn l ((k' + 1) % n))) ∧ Below w0.heap.size w0 wq) (fun x _ => n + 2 - (intOf x).toNat)
                case atStart => exact ⟨i + 2, by omega, by omega, by go_num, (fun k' h1 h2 => by omega), hB⟩
                case round =>
                  obtain ⟨k, hk1, hk2, rfl, hin, hBk⟩ := hrel
                  have HI := Lib.hid hin
                  clear hin
                  have kk := k0.below hBk lt0
                  obtain ⟨x0, x1⟩ := bk2 kk
                  rcases Nat.lt_or_ge k n with hkn | hkn
                  · obtain ⟨j3, hj3⟩ : ∃ j, j = (k + 1) % n := ⟨_, rfl⟩
                    have hl3 : j3 < n := by rw [hj3]; exact Nat.mod_lt _ (by omega)
                    have m3 : ((k : Int) + 1).tmod n = (j3 : Int) := by rw [hj3]; rfl
                    have ww3 : IntKind.i64.wrap ((k : Int) + 1) = (k : Int) + 1 := IntWalk.i64_in _ (by omega)
                    have ww1 : IntKind.i64.wrap ((i : Int) + 1) = (i : Int) + 1 := IntWalk.i64_in _ (by omega)
                    have hkn' : (k : Int) < n := by omega
                    have n0 : ¬ n = 0 := by omega
                    have HJ3 := Lib.hid hj3
                    clear hj3
                    have hr3 := hr0.below hBk
                    obtain ⟨ad, rfl, hab, d1, d2⟩ := hr3.place (cn_at (l := l) (i := i) (by rw [hn]; exact hlt))
                    obtain ⟨d3, d4⟩ := hr3.place' (cn_at (l := l) (i := i + 1) (by rw [hn]; omega))
                    obtain ⟨d5, d6⟩ := hr3.place' (cn_at (l := l) (i := k) (by rw [hn]; exact hkn))
                    obtain ⟨d7, d8⟩ := hr3.place' (cn_at (l := l) (i := j3) (by rw [hn]; exact hl3))
                    have hi1 : i + 1 < n := by omega
                    have hi2 : (i : Int) + 1 < n := by omega
                    have hi3 : (0 : Int) ≤ (i : Int) + 1 := by omega
                    have hi4 : ((i : Int) + 1).toNat = i + 1 := by omega
                    by_cases hji : j3 = i
                    · have HO : Hid (∀ k', i + 2 ≤ k' → k' < k + 1 → k' < n → (k' + 1) % n ≠ i → ¬ tch (cn l i) (cn l (i + 1)) (cn l k') (cn l ((k' + 1) % n))) := fun k' h1 h2 hn' h3 => by
                        rcases Nat.lt_or_ge k' k with h4 | h4
                        · exact HI.out k' h1 h4 hn' h3
                        · exfalso
                          have : k' = k := by omega
                          subst this
                          exact h3 (HJ3.out.symm.trans hji)
                      subst hji
                      go_wp2_with fail
                      refine wp_region_held_drew (S := fun W => W.cell? ⟨b0, 0, none⟩ = some (.slice (some ad) n c)) (by kernel_rfl) x0 (fun hS => ?_)
                      refine takeH (i := 0) (v := ?_) rfl (by kernel_rfl) (by kernel_rfl) (by kernel_rfl) (fun _ _ _ h => h) (by rfl) (by assumption) ?_ ?_
                      rotate_left
                      · intro w hSw; (try dsimp only at hSw); go_simp <;> with_reducible rfl
                      try simp only [Act.put, List.setIfInBounds_toArray, List.set_cons_zero, List.set_cons_succ]
                      refine takeH (i := 1) (v := ?_) rfl (by kernel_rfl) (by kernel_rfl) (by kernel_rfl) (fun _ _ _ h => h) (by rfl) (by assumption) ?_ ?_
                      rotate_left
                      · intro w hSw; (try dsimp only at hSw); go_simp <;> with_reducible rfl
                      try simp only [Act.put, List.setIfInBounds_toArray, List.set_cons_zero, List.set_cons_succ]
                      refine takeH (i := 2) (v := ?_) rfl (by kernel_rfl) (by kernel_rfl) (by kernel_rfl) (fun _ _ _ h => h) (by rfl) (by assumption) ?_ ?_
                      rotate_left
                      · intro w hSw; (try dsimp only at hSw); go_simp <;> with_reducible rfl
                      try simp only [Act.put, List.setIfInBounds_toArray, List.set_cons_zero, List.set_cons_succ]
                      refine takeH (i := 3) (v := ?_) rfl (by kernel_rfl) (by kernel_rfl) (by kernel_rfl) (fun _ _ _ h => h) (by rfl) (by assumption) ?_ ?_
                      rotate_left
                      · intro w hSw; (try dsimp only at hSw); go_simp <;> with_reducible rfl
                      try simp only [Act.put, List.setIfInBounds_toArray, List.set_cons_zero, List.set_cons_succ]
                      refine takeH (i := 4) (v := ?_) rfl (by kernel_rfl) (by kernel_rfl) (by kernel_rfl) (fun _ _ _ h => h) (by rfl) (by assumption) ?_ ?_
                      rotate_left
                      · intro w hSw; (try dsimp only at hSw); go_simp <;> with_reducible rfl
                      try simp only [Act.put, List.setIfInBounds_toArray, List.set_cons_zero, List.set_cons_succ]
                      refine takeH (i := 5) (v := ?_) rfl (by kernel_rfl) (by kernel_rfl) (by kernel_rfl) (fun _ _ _ h => h) (by rfl) (by assumption) ?_ ?_
                      rotate_left
                      · intro w hSw; (try dsimp only at hSw); go_simp <;> with_reducible rfl
                      try simp only [Act.put, List.setIfInBounds_toArray, List.set_cons_zero, List.set_cons_succ]
                      refine takeH (i := 6) (v := ?_) rfl (by kernel_rfl) (by kernel_rfl) (by kernel_rfl) (fun _ _ _ h => h) (by rfl) (by assumption) ?_ ?_
                      rotate_left
                      · intro w hSw; (try dsimp only at hSw); go_simp <;> with_reducible rfl
                      try simp only [Act.put, List.setIfInBounds_toArray, List.set_cons_zero, List.set_cons_succ]
                      refine skipH (i := 7) rfl (by kernel_rfl) (by kernel_rfl) (by kernel_rfl) (fun _ _ _ h => h) (by rfl) (by assumption) ?_
                      try simp only [Act.put, List.setIfInBounds_toArray, List.set_cons_zero, List.set_cons_succ]
                      refine skipH (i := 8) rfl (by kernel_rfl) (by kernel_rfl) (by kernel_rfl) (fun _ _ _ h => h) (by rfl) (by assumption) ?_
                      try simp only [Act.put, List.setIfInBounds_toArray, List.set_cons_zero, List.set_cons_succ]
                      refine skipH (i := 9) rfl (by kernel_rfl) (by kernel_rfl) (by kernel_rfl) (fun _ _ _ h => h) (by rfl) (by assumption) ?_
                      try simp only [Act.put, List.setIfInBounds_toArray, List.set_cons_zero, List.set_cons_succ]
                      refine skipH (i := 10) rfl (by kernel_rfl) (by kernel_rfl) (by kernel_rfl) (fun _ _ _ h => h) (by rfl) (by assumption) ?_
                      try simp only [Act.put, List.setIfInBounds_toArray, List.set_cons_zero, List.set_cons_succ]
                      refine skipH (i := 11) rfl (by kernel_rfl) (by kernel_rfl) (by kernel_rfl) (fun _ _ _ h => h) (by rfl) (by assumption) ?_
                      try simp only [Act.put, List.setIfInBounds_toArray, List.set_cons_zero, List.set_cons_succ]
                      refine skipH (i := 12) rfl (by kernel_rfl) (by kernel_rfl) (by kernel_rfl) (fun _ _ _ h => h) (by rfl) (by assumption) ?_
                      try simp only [Act.put, List.setIfInBounds_toArray, List.set_cons_zero, List.set_cons_succ]
                      refine skipH (i := 13) rfl (by kernel_rfl) (by kernel_rfl) (by kernel_rfl) (fun _ _ _ h => h) (by rfl) (by assumption) ?_
                      try simp only [Act.put, List.setIfInBounds_toArray, List.set_cons_zero, List.set_cons_succ]
                      refine skipH (i := 14) rfl (by kernel_rfl) (by kernel_rfl) (by kernel_rfl) (fun _ _ _ h => h) (by rfl) (by assumption) ?_
                      try simp only [Act.put, List.setIfInBounds_toArray, List.set_cons_zero, List.set_cons_succ]
                      refine skipH (i := 15) rfl (by kernel_rfl) (by kernel_rfl) (by kernel_rfl) (fun _ _ _ h => h) (by rfl) (by assumption) ?_
                      try simp only [Act.put, List.setIfInBounds_toArray, List.set_cons_zero, List.set_cons_succ]
                      refine skipH (i := 16) rfl (by kernel_rfl) (by kernel_rfl) (by kernel_rfl) (fun _ _ _ h => h) (by rfl) (by assumption) ?_
                      try simp only [Act.put, List.setIfInBounds_toArray, List.set_cons_zero, List.set_cons_succ]
                      refine skipH (i := 17) rfl (by kernel_rfl) (by kernel_rfl) (by kernel_rfl) (fun _ _ _ h => h) (by rfl) (by assumption) ?_
                      try simp only [Act.put, List.setIfInBounds_toArray, List.set_cons_zero, List.set_cons_succ]
                      refine skipH (i := 18) rfl (by kernel_rfl) (by kernel_rfl) (by kernel_rfl) (fun _ _ _ h => h) (by rfl) (by assumption) ?_
                      try simp only [Act.put, List.setIfInBounds_toArray, List.set_cons_zero, List.set_cons_succ]
                      refine skipH (i := 19) rfl (by kernel_rfl) (by kernel_rfl) (by kernel_rfl) (fun _ _ _ h => h) (by rfl) (by assumption) ?_
                      try simp only [Act.put, List.setIfInBounds_toArray, List.set_cons_zero, List.set_cons_succ]
                      refine skipH (i := 20) rfl (by kernel_rfl) (by kernel_rfl) (by kernel_rfl) (fun _ _ _ h => h) (by rfl) (by assumption) ?_
                      try simp only [Act.put, List.setIfInBounds_toArray, List.set_cons_zero, List.set_cons_succ]
                      refine skipH (i := 21) rfl (by kernel_rfl) (by kernel_rfl) (by kernel_rfl) (fun _ _ _ h => h) (by rfl) (by assumption) ?_
                      try simp only [Act.put, List.setIfInBounds_toArray, List.set_cons_zero, List.set_cons_succ]
                      refine skipH (i := 22) rfl (by kernel_rfl) (by kernel_rfl) (by kernel_rfl) (fun _ _ _ h => h) (by rfl) (by assumption) ?_
                      try simp only [Act.put, List.setIfInBounds_toArray, List.set_cons_zero, List.set_cons_succ]
                      refine skipH (i := 23) rfl (by kernel_rfl) (by kernel_rfl) (by kernel_rfl) (fun _ _ _ h => h) (by rfl) (by assumption) ?_
                      try simp only [Act.put, List.setIfInBounds_toArray, List.set_cons_zero, List.set_cons_succ]
                      refine skipH (i := 24) rfl (by kernel_rfl) (by kernel_rfl) (by kernel_rfl) (fun _ _ _ h => h) (by rfl) (by assumption) ?_
                      try simp only [Act.put, List.setIfInBounds_toArray, List.set_cons_zero, List.set_cons_succ]
                      refine skipH (i := 25) rfl (by kernel_rfl) (by kernel_rfl) (by kernel_rfl) (fun _ _ _ h => h) (by rfl) (by assumption) ?_
                      try simp only [Act.put, List.setIfInBounds_toArray, List.set_cons_zero, List.set_cons_succ]
                      refine skipH (i := 26) rfl (by kernel_rfl) (by kernel_rfl) (by kernel_rfl) (fun _ _ _ h => h) (by rfl) (by assumption) ?_
                      try simp only [Act.put, List.setIfInBounds_toArray, List.set_cons_zero, List.set_cons_succ]
                      refine skipH (i := 27) rfl (by kernel_rfl) (by kernel_rfl) (by kernel_rfl) (fun _ _ _ h => h) (by rfl) (by assumption) ?_
                      try simp only [Act.put, List.setIfInBounds_toArray, List.set_cons_zero, List.set_cons_succ]
                      refine skipH (i := 28) rfl (by kernel_rfl) (by kernel_rfl) (by kernel_rfl) (fun _ _ _ h => h) (by rfl) (by assumption) ?_
                      try simp only [Act.put, List.setIfInBounds_toArray, List.set_cons_zero, List.set_cons_succ]
                      refine skipH (i := 29) rfl (by kernel_rfl) (by kernel_rfl) (by kernel_rfl) (fun _ _ _ h => h) (by rfl) (by assumption) ?_
                      try simp only [Act.put, List.setIfInBounds_toArray, List.set_cons_zero, List.set_cons_succ]
                      refine skipH (i := 30) rfl (by kernel_rfl) (by kernel_rfl) (by kernel_rfl) (fun _ _ _ h => h) (by rfl) (by assumption) ?_
                      try simp only [Act.put, List.setIfInBounds_toArray, List.set_cons_zero, List.set_cons_succ]
                      refine skipH (i := 31) rfl (by kernel_rfl) (by kernel_rfl) (by kernel_rfl) (fun _ _ _ h => h) (by rfl) (by assumption) ?_
                      try simp only [Act.put, List.setIfInBounds_toArray, List.set_cons_zero, List.set_cons_succ]
                      refine takeH (i := 32) (v := ?_) rfl (by kernel_rfl) (by kernel_rfl) (by kernel_rfl) (fun _ _ _ h => h) (by rfl) (by assumption) ?_ ?_
                      rotate_left
                      · intro w hSw; (try dsimp only at hSw); go_simp <;> with_reducible rfl
                      try simp only [Act.put, List.setIfInBounds_toArray, List.set_cons_zero, List.set_cons_succ]
                      refine wpAnyH_done (by kernel_rfl) ?_ _
                      go_wp2
                      go_roundw
                      case rel => exact ⟨k + 1, by omega, by omega, by go_num, HO.out, hBk.drew⟩
                      case measure => simp [intOf]; omega
                    · have hji' : ((j3 : Int) != (i : Int)) = true := by simp; omega
                      obtain ⟨z, hz⟩ : ∃ z, decide (tch (cn l i) (cn l (i + 1)) (cn l k) (cn l j3)) = z := ⟨_, rfl⟩
                      have T := fun W => rtouch_any (cn l i) (cn l (i + 1)) (cn l k) (cn l j3) W (cn_ok HOK.out (by rw [hn]; exact hlt)) (cn_ok HOK.out (by rw [hn]; omega)) (cn_ok HOK.out (by rw [hn]; exact hkn)) (cn_ok HOK.out (by rw [hn]; exact hl3)) z hz
                      have HZ := Lib.hid hz
                      clear hz
                      unfold pv at T
                      go_wp2_with fail
                      go_region_held3 (fun W => W.cell? ⟨b0, 0, none⟩ = some (.slice (some ad) n c) ∧ W.cell? (ad.add (i * 2)) = some (.int .i64 (cn l i).1) ∧ W.cell? ⟨(ad.add (i * 2)).block, (ad.add (i * 2)).off + 1, none⟩ = some (.int .i64 (cn l i).2) ∧ W.cell? (ad.add ((i + 1) * 2)) = some (.int .i64 (cn l (i + 1)).1) ∧ W.cell? ⟨(ad.add ((i + 1) * 2)).block, (ad.add ((i + 1) * 2)).off + 1, none⟩ = some (.int .i64 (cn l (i + 1)).2) ∧ W.cell? (ad.add (k * 2)) = some (.int .i64 (cn l k).1) ∧ W.cell? ⟨(ad.add (k * 2)).block, (ad.add (k * 2)).off + 1, none⟩ = some (.int .i64 (cn l k).2) ∧ W.cell? (ad.add (j3 * 2)) = some (.int .i64 (cn l j3).1) ∧ W.cell? ⟨(ad.add (j3 * 2)).block, (ad.add (j3 * 2)).off + 1, none⟩ = some (.int .i64 (cn l j3).2))
                        (first | exact ⟨x0, d1, d2, d3, d4, d5, d6, d7, d8⟩ | exact ⟨f0, f1, f2, f3, f4, f5, f6, f7, f8⟩)
                        (first | (go_at_call 58; (with_reducible refine (T _).mono ?_); rintro e wt ⟨hbt, rfl⟩; have hr4 := hr3.drew.below (hbt.mono hBk.size); have f0 := (bk2 (kk.drew.next' hbt)).1; obtain ⟨f1, f2⟩ := hr4.place' (cn_at (l := l) (i := i) (by rw [hn]; exact hlt)); obtain ⟨f3, f4⟩ := hr4.place' (cn_at (l := l) (i := i + 1) (by rw [hn]; exact hi1)); obtain ⟨f5, f6⟩ := hr4.place' (cn_at (l := l) (i := k) (by rw [hn]; exact hkn)); obtain ⟨f7, f8⟩ := hr4.place' (cn_at (l := l) (i := j3) (by rw [hn]; exact hl3))))
                      have hBt := hBk.drew.trans (hbt.mono hBk.size)
                      clear f0 f1 f2 f3 f4 f5 f6 f7 f8 d1 d2 d3 d4 d5 d6 d7 d8 hr3 hr4 T hbt x0 x1 kk
                      cases z
                      · have HK : Hid (¬ tch (cn l i) (cn l (i + 1)) (cn l k) (cn l ((k + 1) % n))) := by
                          have h9 := of_decide_eq_false HZ.out
                          rw [HJ3.out] at h9
                          exact h9
                        go_wp2
                        go_roundw
                        case rel =>
                          refine ⟨k + 1, by omega, by omega, by go_num, fun k' h1 h2 h3 h3' => ?_, hBt⟩
                          rcases Nat.lt_or_ge k' k with h4 | h4
                          · exact HI.out k' h1 h4 h3 h3'
                          · have : k' = k := by omega
                            subst this
                            exact HK.out
                        case measure => simp [intOf]; omega
                      · have HK := of_decide_eq_true HZ.out
                        have hqf : q = false := by
                          cases hqq : q
                          · rfl
                          · exfalso
                            have h9 := (HQ.out.1 hqq).2.2 i hlt k hk1 hkn (by rw [← HJ3.out]; exact hji)
                            rw [← HJ3.out] at h9
                            exact h9 HK
                        subst hqf
                        clear HK
                        go_wp2
                        go_ret
                        exact ⟨hB0.trans (hBt.mono hB0.size), rfl⟩
                  · have HO : Hid (∀ k', i + 2 ≤ k' → k' < n → (k' + 1) % n ≠ i → ¬ tch (cn l i) (cn l (i + 1)) (cn l k') (cn l ((k' + 1) % n))) := fun k' h1 h2 h3 => HI.out k' h1 (by omega) h2 h3
                    have hkn' : ¬ (k : Int) < n := by omega
                    go_wp2
                    go_roundw
                    case rel =>
                      refine ⟨i + 1, by omega, by go_num, fun j hj => ?_, hBk⟩
                      rcases Nat.lt_or_ge j i with h5 | h5
                      · exact HO0.out j h5
                      · have : j = i := by omega
                        subst this
                        exact HO.out
                    case measure => simp [intOf]; omega
              · have hin : n = i := by omega
                subst hin
                have hqt : q = true := HQ.out.2 ⟨HA.out, HT.out, HO0.out⟩
                subst hqt
                go_wp2
                go_ret
                exact ⟨hB0.trans (hB.mono hB0.size), rfl⟩
  · have hno : ¬ validC l := fun hx => hlen ⟨hx.1, hx.2.1⟩
    have hqf : q = false := by
      cases q
      · rfl
      · exact absurd (hq.1 rfl) hno
    subst hqf
    clear hno hq
    by_cases h3 : l.length < 3
    · go_enter Tryz.func27, Tryz.ntmps27
      go_wp2
      go_ret
      exact ⟨hB0, rfl⟩
    · have h8 : 8 < l.length := by omega
      have h3' : ¬ ((l.length : Int) < 3) := by omega
      have h8' : (8 : Int) < l.length := by omega
      go_enter Tryz.func27, Tryz.ntmps27
      go_wp2
      go_ret
      exact ⟨hB0, rfl⟩
end Go.Proofs.YtaihplgfbepgpaaGreatDoor
