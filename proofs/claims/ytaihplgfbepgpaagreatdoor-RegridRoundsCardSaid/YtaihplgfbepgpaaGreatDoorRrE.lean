/-
  The walk of the law RegridRounds.
-/
import Derived.Test.YtaihplgfbepgpaaGreatDoorRrV
namespace Go.Proofs.YtaihplgfbepgpaaGreatDoor
open Go.RowKit Ar

/-- The arguments in blocks of the call's own. -/
structure Ty (w : World) (ua ub : Value) (ma mb : Bool) (W : World) : Prop where
  below : Below w.heap.size w W
  ka : Bk W w.heap.size 33 #[ua, .bool ma]
  kb : Bk W (w.heap.size + 1) 33 #[ub, .bool mb]
theorem Ty.next {w W W' : World} {ua ub : Value} {ma mb : Bool} (h : Ty w ua ub ma mb W) (hb : Below W.heap.size W W') : Ty w ua ub ma mb W' :=
  ⟨h.below.trans (hb.mono h.below.size), h.ka.next' hb, h.kb.next' hb⟩
theorem Ty.start (w : World) (ua ub : Value) (ma mb : Bool) : Ty w ua ub ma mb ((w.alloc (.cells #[ua, .bool ma] 33)).alloc (.cells #[ub, .bool mb] 33)) :=
  ⟨(below_alloc w _).alloc (by simp) _, (Bk.new _ _ _).alloc _, Bk.new2 _ _ _ _⟩
theorem Ty.cells {w W : World} {ua ub : Value} {ma mb : Bool} (h : Ty w ua ub ma mb W) :
    (W.cell? ⟨w.heap.size, 0, none⟩ = some ua ∧ W.cell? ⟨w.heap.size, 1, none⟩ = some (.bool ma)) ∧ (W.cell? ⟨w.heap.size + 1, 0, none⟩ = some ub ∧ W.cell? ⟨w.heap.size + 1, 1, none⟩ = some (.bool mb)) :=
  ⟨bk2 h.ka, bk2 h.kb⟩
theorem rndQ_right {la lb : List Pl} (hb : 0 < lb.length) {p : Int} (hp : 0 ≤ p) : rndQ la (mvd lb p 0) p = rndQ la lb p := by
  by_cases h : p = 0
  · subst h
    unfold rndQ
    rw [if_pos rfl, if_pos rfl, commonQ_right hb]
    rfl
  · exact rndQ_moved hb (by omega)

set_option maxRecDepth 100000 in
set_option maxHeartbeats 6400000 in
theorem rounds_walk (la lb : List Pl) (ma mb : Bool) (va vb : Value) (p : Int) (w : World) (ha : IsC w w.heap.size va la ma) (hb : IsC w w.heap.size vb lb mb) (he : EnvR w) :
    Calls Tryz.prog 4 #[va, vb, .int .i64 p] w fun e w' => Below w.heap.size w w' ∧ e = .returned (.bool true) := by
  obtain ⟨A, ca, rfl, hca, hcma, _, _⟩ := id ha
  obtain ⟨A', cb, rfl, hcb, hcmb, _, _⟩ := id hb
  obtain ⟨z, hz⟩ : ∃ z : Bool, z = true ↔ (2 < [(la, ma), (lb, mb)].length ∨ ∃ x ∈ [(la, ma), (lb, mb)], 10 < x.1.length) := bool_of _
  have HZ := Lib.hid hz
  have hla : la.length ≤ maxLen := Nat.le_trans hca hcma
  have hlb : lb.length ≤ maxLen := Nat.le_trans hcb hcmb
  clear hz
  go_enter Tryz.func4, Tryz.ntmps4
  go_wp2_with fail
  have m0 := Ty.start w (.slice A la.length ca) (.slice A' lb.length cb) ma mb
  have kk0 := Bk.new ((w.alloc (.cells #[.slice A la.length ca, .bool ma] 33)).alloc (.cells #[.slice A' lb.length cb, .bool mb] 33)) 33 #[.slice A la.length ca, .bool ma, .slice A' lb.length cb, .bool mb]
  have m1 := m0.next (below_alloc _ (.cells #[.slice A la.length ca, .bool ma, .slice A' lb.length cb, .bool mb] 33))
  have hs4 : ((w.alloc (.cells #[.slice A la.length ca, .bool ma] 33)).alloc (.cells #[.slice A' lb.length cb, .bool mb] 33)).heap.size = w.heap.size + 1 + 1 := by simp
  rw [hs4] at kk0
  generalize (((w.alloc (.cells #[.slice A la.length ca, .bool ma] 33)).alloc (.cells #[.slice A' lb.length cb, .bool mb] 33)).alloc (.cells #[.slice A la.length ca, .bool ma, .slice A' lb.length cb, .bool mb] 33)) = w0 at *
  have ha0 := (ha.below m1.below).more m1.below.size
  have hb0 := (hb.below m1.below).more m1.below.size
  have hcs := two_cells ha0 hb0 kk0
  have MN := Many_any _ 2 _ w0 hcs (by omega) (by unfold maxLen; simp) z HZ.out (by intro x hx; simp at hx; rcases hx with rfl | rfl <;> assumption)
  refine MN.mono ?_
  rintro e w1 ⟨hb1, rfl⟩
  have m2 := m1.next hb1
  have he2 := he.next m2.below
  have ha2 := ha0.next hb1
  have hb2 := hb0.next hb1
  clear m0 m1 kk0 MN hcs ha0 hb0 hs4 hb1 HZ
  obtain ⟨⟨x0, x1⟩, ⟨y0, y1⟩⟩ := m2.cells
  cases z
  rotate_left
  · go_wp2_with fail
    refine (sane_any _ he2).mono ?_
    rintro e w2 ⟨hb3, rfl⟩
    have hB := m2.below.trans (hb3.mono m2.below.size)
    clear m2 ha2 hb2 he2 hb3
    go_wp2
    go_ret
    exact ⟨hB, rfl⟩
  obtain ⟨za, hza⟩ := bool_of (validC la)
  obtain ⟨zb, hzb⟩ := bool_of (validC lb)
  obtain ⟨per, hper⟩ := bool_of (perOk p [(la, true), (lb, true)])
  obtain ⟨F, hF⟩ := MovedIs.ex lb p 0
  have HF := Lib.hid hF
  have HV : Hid ((if za && zb then if per then (0 : Int) else 2 else 80) = 0 → validC la ∧ validC lb ∧ perOk p [(la, true), (lb, true)]) := by
    show _ → _
    cases za <;> cases zb <;> cases per <;> simp at hza hzb hper ⊢
    exact ⟨hza, hzb, hper⟩
  have C1 := CommonRound_any la lb ma mb (.agg #[.slice A la.length ca, .bool ma]) (.agg #[.slice A' lb.length cb, .bool mb]) p w1 ha2 hb2 he2 (za && zb) per (by rw [Bool.and_eq_true, hza, hzb]) hper
  have C2 := Lib.hid (fun X (h : Below w1.heap.size w1 X) => RCommonRound_any la lb ma mb (.agg #[.slice A la.length ca, .bool ma]) (.agg #[.slice A' lb.length cb, .bool mb]) p X (ha2.next h) (hb2.next h) za zb per hza hzb hper)
  have ht : (if (za && zb) && per then ratText (rrndQ la lb p) else []) = (if (za && zb) && per then ratText (rndQ la lb p) else []) := by
    by_cases h : ((za && zb) && per) = true
    · have h' := h
      rw [Bool.and_eq_true, Bool.and_eq_true] at h
      have hp := hper.1 h.2
      rw [rndQ_ref (hza.1 h.1.1) (hzb.1 h.1.2) hp.1.1 (hp.2 (la, true) (by simp)) (hp.2 (lb, true) (by simp))]
    · rw [if_neg h, if_neg h]
  have HT : Hid ((if za && zb then if per then (0 : Int) else 2 else 80) = 0 → (if (za && zb) && per then ratText (rndQ la lb p) else []) = ratText (rndQ la lb p)) := by
    show _ → _
    cases za <;> cases zb <;> cases per <;> simp
  rw [ht] at C2
  generalize (if (za && zb) && per then ratText (rndQ la lb p) else []) = tx at *
  generalize (if za && zb then if per then (0 : Int) else 2 else 80) = er at *
  clear ht hza hzb hper hF
  go_wp2_with fail
  refine C1.mono ?_
  rintro e w2 ⟨hb3, rfl⟩
  have m3 := m2.next hb3
  have he3 := he2.next hb3
  have ha3 := ha2.next hb3
  have hb3' := hb2.next hb3
  have C3 := C2.out w2 hb3
  clear C1 C2 m2 ha2 hb2 he2 hb3 x0 x1 y0 y1
  obtain ⟨⟨x0, x1⟩, ⟨y0, y1⟩⟩ := m3.cells
  go_wp2_with fail
  refine C3.mono ?_
  rintro e w3 ⟨hb4, rfl⟩
  have m4 := m3.next hb4
  have he4 := he3.next hb4
  have ha4 := ha3.next hb4
  have hb4' := hb3'.next hb4
  clear C3 m3 he3 ha3 hb3' hb4 x0 x1 y0 y1
  go_wp2_with fail
  refine (sane_any _ he4).mono ?_
  rintro e w4 ⟨hb5, rfl⟩
  have m5 := m4.next hb5
  have he5 := he4.next hb5
  have ha5 := ha4.next hb5
  have hb5' := hb4'.next hb5
  clear m4 he4 ha4 hb4' hb5
  obtain ⟨⟨x0, x1⟩, ⟨y0, y1⟩⟩ := m5.cells
  have MV := Moved_any lb mb _ p 0 w4 hb5' F HF.out
  obtain ⟨l2, hl2⟩ : ∃ l, l = (if F = 0 then mvd lb p 0 else []) := ⟨_, rfl⟩
  obtain ⟨b2, hb2⟩ : ∃ b, b = (if F = 0 then mb else false) := ⟨_, rfl⟩
  rw [← hl2, ← hb2] at MV
  have HL2 := Lib.hid hl2
  clear hl2 hb2
  go_wp2_with fail
  refine MV.mono ?_
  rintro e w5 ⟨hb6, v3, rfl, hv6⟩
  obtain ⟨A3, c3, rfl⟩ := hv6.form
  have m6 := m5.next hb6
  have he6 := he5.next hb6
  have ha6 := ha5.next hb6
  have lt1 := m6.ka.lt
  have lt2 := m6.kb.lt
  clear MV m5 he5 ha5 hb5' hb6 x0 x1 y0 y1
  obtain ⟨⟨x0, x1⟩, ⟨y0, y1⟩⟩ := m6.cells
  have hA := below_alloc w5 (.cells #[.slice A3 l2.length c3, .bool b2] 33)
  have hB7 := m6.below.trans (hA.mono m6.below.size)
  by_cases e0 : er = 0
  · by_cases f0 : F = 0
    · subst f0
      obtain ⟨hva, hvb, hpe⟩ := HV.out e0
      have hpb : ∀ q ∈ mvd lb p 0, okP q := by
        rcases HF.out with h | h | h | h
        · omega
        · omega
        · omega
        · exact h.2.2.1
      have e2 : l2 = mvd lb p 0 := HL2.out
      have hb0 : 0 < lb.length := by have := hvb.1; omega
      have hv2 : validC l2 := by rw [e2]; exact validC_mvd hvb hpb
      have hpe2 : perOk p [(la, true), (l2, true)] := by
        refine ⟨hpe.1, fun x hx => ?_⟩
        simp at hx
        rcases hx with rfl | rfl
        · exact hpe.2 (la, true) (by simp)
        · have := hpe.2 (lb, true) (by simp)
          simp only at this ⊢
          rw [e2, wid_mvd hb0]
          exact this
      have hq : rndQ la l2 p = rndQ la lb p := by rw [e2]; exact rndQ_right hb0 hpe.1.1
      have htx := HT.out e0
      have C1 := Lib.hid (fun X (h1 : IsC X X.heap.size _ la ma) (h2 : IsC X X.heap.size _ l2 b2) h3 => CommonRound_any la l2 ma b2 (.agg #[.slice A la.length ca, .bool ma]) (.agg #[.slice A3 l2.length c3, .bool b2]) p X h1 h2 h3 true true ⟨fun _ => ⟨hva, hv2⟩, fun _ => rfl⟩ ⟨fun _ => hpe2, fun _ => rfl⟩)
      rw [hq, ← htx] at C1
      simp only [Bool.and_self, if_true] at C1
      subst e0
      clear hq htx hpe2 hv2 hb0 hpb hva hvb hpe e2 HL2 HF HV HT
      go_wp2_with fail
      have k7 := Bk.new w5 33 #[.slice A3 l2.length c3, .bool b2]
      have m7 := m6.next hA
      have he7 := he6.next hA
      have ha7 := ha6.next hA
      have hv7 := hv6.next hA
      clear m6 he6 ha6 hv6 x0 x1 y0 y1 lt1 lt2 hA k7 hB7
      generalize w5.alloc (.cells #[.slice A3 l2.length c3, .bool b2] 33) = w6 at *
      refine (C1.out w6 ha7 hv7 he7).mono ?_
      rintro e w7 ⟨hb8, rfl⟩
      have hB8 := m7.below.trans (hb8.mono m7.below.size)
      clear C1 m7 he7 ha7 hv7 hb8
      by_cases p0 : p = 0
      · have p1 : (p == 0) = true := by simpa using p0
        clear p0
        go_wp2
        go_ret
        exact ⟨hB8, rfl⟩
      · have p1 : (p == 0) = false := by simpa using p0
        clear p0
        go_wp2
        go_ret
        exact ⟨hB8, rfl⟩
    · have f1 : ((F : Int) != 0) = true := by simp; omega
      subst e0
      clear HF HL2 HV HT m6 he6 ha6 hv6 hA
      go_wp2
      go_ret
      exact ⟨hB7, rfl⟩
  · have f1 : (er != 0) = true := by simpa using e0
    clear HF HL2 HV HT m6 he6 ha6 hv6 hA
    go_wp2
    go_ret
    exact ⟨hB7, rfl⟩
end Go.Proofs.YtaihplgfbepgpaaGreatDoor
