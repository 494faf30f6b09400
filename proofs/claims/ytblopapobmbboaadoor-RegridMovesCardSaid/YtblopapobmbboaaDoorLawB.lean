/-
  The walk of the law RegridMoves.
-/
import Derived.Test.YtblopapobmbboaaDoorLawA
import Derived.Test.YtblopapobmbboaaDoorRefA
import Derived.Test.YtblopapobmbboaaDoorRegR
namespace Go.Proofs.YtblopapobmbboaaDoor
open Go.RowKit Ar

/-- The arguments in blocks of the call's own. -/
structure Mw (w : World) (ua ub : Value) (ma mb : Bool) (dx dy : Int) (W : World) : Prop where
  below : Below w.heap.size w W
  ka : Bk W w.heap.size 24 #[ua, .bool ma]
  kb : Bk W (w.heap.size + 1) 24 #[ub, .bool mb]
  kp : Bk W (w.heap.size + 1 + 1) 42 #[.int .i64 dx, .int .i64 dy]
theorem Mw.next {w W W' : World} {ua ub : Value} {ma mb : Bool} {dx dy : Int} (h : Mw w ua ub ma mb dx dy W) (hb : Below W.heap.size W W') : Mw w ua ub ma mb dx dy W' :=
  ⟨h.below.trans (hb.mono h.below.size), h.ka.next' hb, h.kb.next' hb, h.kp.next' hb⟩
theorem Mw.start (w : World) (ua ub : Value) (ma mb : Bool) (dx dy : Int) : Mw w ua ub ma mb dx dy (((w.alloc (.cells #[ua, .bool ma] 24)).alloc (.cells #[ub, .bool mb] 24)).alloc (.cells #[.int .i64 dx, .int .i64 dy] 42)) :=
  ⟨((below_alloc w _).alloc (by simp) _).alloc (by simp; omega) _, ((Bk.new _ _ _).alloc _).alloc _, (by simpa using ((Bk.new (w.alloc _) _ _).alloc _)), Bk.new3 _ _ _ _ _⟩
theorem Mw.cells {w W : World} {ua ub : Value} {ma mb : Bool} {dx dy : Int} (h : Mw w ua ub ma mb dx dy W) :
    (W.cell? ⟨w.heap.size, 0, none⟩ = some ua ∧ W.cell? ⟨w.heap.size, 1, none⟩ = some (.bool ma)) ∧ (W.cell? ⟨w.heap.size + 1, 0, none⟩ = some ub ∧ W.cell? ⟨w.heap.size + 1, 1, none⟩ = some (.bool mb)) ∧ (W.cell? ⟨w.heap.size + 1 + 1, 0, none⟩ = some (.int .i64 dx) ∧ W.cell? ⟨w.heap.size + 1 + 1, 1, none⟩ = some (.int .i64 dy)) :=
  ⟨bk2 h.ka, bk2 h.kb, bk2 h.kp⟩

set_option maxRecDepth 100000 in
set_option maxHeartbeats 6400000 in
theorem moves_walk (la lb : List Pl) (ma mb : Bool) (va vb : Value) (dx dy : Int) (w : World) (ha : IsC w w.heap.size va la ma) (hb : IsC w w.heap.size vb lb mb) (he : EnvR w) :
    Calls Tryd.prog 4 #[va, vb, .agg #[.int .i64 dx, .int .i64 dy]] w fun e w' => Below w.heap.size w w' ∧ e = .returned (.bool true) := by
  obtain ⟨A, ca, rfl, hca, hcma, _, _⟩ := id ha
  obtain ⟨A', cb, rfl, hcb, hcmb, _, _⟩ := id hb
  obtain ⟨z, hz⟩ : ∃ z : Bool, z = true ↔ (2 < [(la, ma), (lb, mb)].length ∨ ∃ x ∈ [(la, ma), (lb, mb)], 10 < x.1.length) := bool_of _
  obtain ⟨E, hE⟩ := MovedIs.ex la dx dy
  obtain ⟨F, hF⟩ := MovedIs.ex lb dx dy
  have HE := Lib.hid hE
  have HF := Lib.hid hF
  have HZ := Lib.hid hz
  have hla : la.length ≤ maxLen := Nat.le_trans hca hcma
  have hlb : lb.length ≤ maxLen := Nat.le_trans hcb hcmb
  clear hE hF hz
  go_enter Tryd.func4, Tryd.ntmps4
  go_wp2_with fail
  have m0 := Mw.start w (.slice A la.length ca) (.slice A' lb.length cb) ma mb dx dy
  have kk := Bk.new (((w.alloc (.cells #[.slice A la.length ca, .bool ma] 24)).alloc (.cells #[.slice A' lb.length cb, .bool mb] 24)).alloc (.cells #[.int .i64 dx, .int .i64 dy] 42)) 24 #[.slice A la.length ca, .bool ma, .slice A' lb.length cb, .bool mb]
  have m1 := m0.next (below_alloc _ (.cells #[.slice A la.length ca, .bool ma, .slice A' lb.length cb, .bool mb] 24))
  have hs4 : (((w.alloc (.cells #[.slice A la.length ca, .bool ma] 24)).alloc (.cells #[.slice A' lb.length cb, .bool mb] 24)).alloc (.cells #[.int .i64 dx, .int .i64 dy] 42)).heap.size = w.heap.size + 1 + 1 + 1 := by simp
  rw [hs4] at kk
  generalize ((((w.alloc (.cells #[.slice A la.length ca, .bool ma] 24)).alloc (.cells #[.slice A' lb.length cb, .bool mb] 24)).alloc (.cells #[.int .i64 dx, .int .i64 dy] 42)).alloc (.cells #[.slice A la.length ca, .bool ma, .slice A' lb.length cb, .bool mb] 24)) = w0 at *
  have ha0 := (ha.below m1.below).more m1.below.size
  have hb0 := (hb.below m1.below).more m1.below.size
  have hcs := two_cells ha0 hb0 kk
  have MN := Many_any _ 2 _ w0 hcs (by omega) (by unfold maxLen; simp) z HZ.out (by intro x hx; simp at hx; rcases hx with rfl | rfl <;> assumption)
  refine MN.mono ?_
  rintro e w1 ⟨hb1, rfl⟩
  have m2 := m1.next hb1
  have he2 := he.next m2.below
  have ha2 := ha0.next hb1
  have hb2 := hb0.next hb1
  clear m0 m1 kk MN hcs ha0 hb0 hs4 hb1
  obtain ⟨⟨x0, x1⟩, ⟨y0, y1⟩, ⟨p0, p1⟩⟩ := m2.cells
  cases z
  · obtain ⟨l1, hl1⟩ : ∃ l, l = (if E = 0 then mvd la dx dy else []) := ⟨_, rfl⟩
    obtain ⟨b1, hb1⟩ : ∃ b, b = (if E = 0 then ma else false) := ⟨_, rfl⟩
    have h1m : l1.length ≤ 1000000 := by
      rw [hl1]
      by_cases e0 : E = 0
      · rw [if_pos e0, mvd_len]
        rcases HE.out with h | h | h | h
        · omega
        · omega
        · omega
        · have := h.1.2.1; omega
      · rw [if_neg e0]; simp
    have MV := Moved_any la ma _ dx dy w1 ha2 E HE.out
    have RM := fun W (h : IsC W W.heap.size (.agg #[.slice A la.length ca, .bool ma]) la ma) => rMoved_any la ma _ dx dy W h E HE.out
    rw [← hl1, ← hb1] at MV
    simp only [← hl1, ← hb1] at RM
    have HL1 := Lib.hid hl1
    clear hl1 hb1
    go_wp2_with fail
    refine MV.mono ?_
    rintro e w2 ⟨hbm, v1, rfl, hv1⟩
    obtain ⟨A1, c1, rfl⟩ := hv1.form
    have m3 := m2.next hbm
    have ha3 := ha2.next hbm
    have hb3 := hb2.next hbm
    have he3 := he2.next hbm
    have lt1 := m3.ka.lt
    have lt2 := m3.kb.lt
    have lt3 := m3.kp.lt
    clear MV m2 ha2 hb2 he2 hbm x0 x1 y0 y1 p0 p1
    obtain ⟨⟨x0, x1⟩, ⟨y0, y1⟩, ⟨p0, p1⟩⟩ := m3.cells
    go_wp2_with fail
    have hA := below_alloc w2 (.cells #[.slice A1 l1.length c1, .bool b1] 24)
    have k7 := Bk.new w2 24 #[.slice A1 l1.length c1, .bool b1]
    have m4 := m3.next hA
    have ha4 := ha3.next hA
    have hb4 := hb3.next hA
    have he4 := he3.next hA
    have hv4 := hv1.next hA
    clear m3 ha3 hb3 he3 hv1 x0 x1 y0 y1 p0 p1 lt1 lt2 lt3 hA
    obtain ⟨g7, hg7⟩ : ∃ g, g = w2.heap.size := ⟨_, rfl⟩
    rw [← hg7] at k7 ⊢
    clear hg7
    generalize w2.alloc (.cells #[.slice A1 l1.length c1, .bool b1] 24) = w3 at *
    refine (RM w3 ha4).mono ?_
    rintro e w4 ⟨hbm, v2, rfl, hv2⟩
    obtain ⟨A2, c2, rfl⟩ := hv2.form
    have m5 := m4.next hbm
    have ha5 := ha4.next hbm
    have hb5 := hb4.next hbm
    have he5 := he4.next hbm
    have hv5 := hv4.next hbm
    have k75 := k7.next' hbm
    have lt1 := m5.ka.lt
    have lt2 := m5.kb.lt
    have lt3 := m5.kp.lt
    have lt7 := k75.lt
    clear RM m4 ha4 hb4 he4 hbm hv4 k7
    obtain ⟨⟨x0, x1⟩, ⟨y0, y1⟩, ⟨p0, p1⟩⟩ := m5.cells
    obtain ⟨q0, q1⟩ := bk2 k75
    go_wp2_with fail
    have hA := below_alloc w4 (.cells #[.slice A2 l1.length c2, .bool b1] 24)
    have k9 := Bk.new w4 24 #[.slice A2 l1.length c2, .bool b1]
    have m6 := m5.next hA
    have ha6 := ha5.next hA
    have hb6 := hb5.next hA
    have he6 := he5.next hA
    have hv6 := hv5.next hA
    have hu6 := hv2.next hA
    have k76 := k75.next' hA
    clear m5 ha5 hb5 he5 hv5 hv2 k75 x0 x1 y0 y1 p0 p1 q0 q1 lt1 lt2 lt3 lt7 hA
    obtain ⟨g9, hg9⟩ : ∃ g, g = w4.heap.size := ⟨_, rfl⟩
    rw [← hg9] at k9 ⊢
    clear hg9
    generalize w4.alloc (.cells #[.slice A2 l1.length c2, .bool b1] 24) = w5 at *
    refine (sameCell_true l1 b1 _ _ w5 hv6 hu6 h1m).mono ?_
    rintro e w6 ⟨hbm, rfl⟩
    have m7 := m6.next hbm
    have ha7 := ha6.next hbm
    have hb7 := hb6.next hbm
    have he7 := he6.next hbm
    have hv7 := hv6.next hbm
    have k77 := k76.next' hbm
    clear m6 ha6 hb6 he6 hv6 hu6 k76 k9 hbm
    go_wp2_with fail
    refine (sane_any _ he7).mono ?_
    rintro e w7 ⟨hbm, rfl⟩
    have m8 := m7.next hbm
    have ha8 := ha7.next hbm
    have hb8 := hb7.next hbm
    have he8 := he7.next hbm
    have hv8 := hv7.next hbm
    have k78 := k77.next' hbm
    clear m7 ha7 hb7 he7 hv7 k77 hbm
    obtain ⟨⟨x0, x1⟩, ⟨y0, y1⟩, ⟨p0, p1⟩⟩ := m8.cells
    obtain ⟨l2, hl2⟩ : ∃ l, l = (if F = 0 then mvd lb dx dy else []) := ⟨_, rfl⟩
    obtain ⟨b2, hb2⟩ : ∃ b, b = (if F = 0 then mb else false) := ⟨_, rfl⟩
    have MV := Moved_any lb mb _ dx dy w7 hb8 F HF.out
    rw [← hl2, ← hb2] at MV
    have HL2 := Lib.hid hl2
    clear hl2 hb2
    go_wp2_with fail
    refine MV.mono ?_
    rintro e w8 ⟨hbm, v3, rfl, hv9⟩
    obtain ⟨A3, c3, rfl⟩ := hv9.form
    have m9 := m8.next hbm
    have ha9 := ha8.next hbm
    have hb9 := hb8.next hbm
    have he9 := he8.next hbm
    have hu9 := hv8.next hbm
    have k79 := k78.next' hbm
    have lt1 := m9.ka.lt
    have lt2 := m9.kb.lt
    have lt3 := m9.kp.lt
    have lt7 := k79.lt
    clear MV m8 ha8 hb8 he8 hbm hv8 k78 x0 x1 y0 y1 p0 p1
    obtain ⟨⟨x0, x1⟩, ⟨y0, y1⟩, ⟨p0, p1⟩⟩ := m9.cells
    obtain ⟨q0, q1⟩ := bk2 k79
    have hB9 := m9.below.trans ((below_alloc w8 (.cells #[.slice A3 l2.length c3, .bool b2] 24)).mono m9.below.size)
    by_cases e0 : E = 0
    · by_cases f0 : F = 0
      · subst e0
        subst f0
        have hva : validC la := by
          rcases HE.out with h | h | h | h
          · omega
          · omega
          · omega
          · exact h.1
        have hpa : ∀ p ∈ mvd la dx dy, okP p := by
          rcases HE.out with h | h | h | h
          · omega
          · omega
          · omega
          · exact h.2.2.1
        have hvb : validC lb := by
          rcases HF.out with h | h | h | h
          · omega
          · omega
          · omega
          · exact h.1
        have hpb : ∀ p ∈ mvd lb dx dy, okP p := by
          rcases HF.out with h | h | h | h
          · omega
          · omega
          · omega
          · exact h.2.2.1
        have e1 : l1 = mvd la dx dy := HL1.out
        have e2 : l2 = mvd lb dx dy := HL2.out
        have hva1 : validC l1 := by rw [e1]; exact validC_mvd hva hpa
        have hvb1 : validC l2 := by rw [e2]; exact validC_mvd hvb hpb
        have hcq : commonQ l1 l2 0 = commonQ la lb 0 := by
          rw [e1, e2]
          exact commonQ_mvd (by have := hva.1; omega) (by have := hvb.1; omega) dx dy
        clear e1 e2 hpa hpb HL1 HL2 HE HF HZ
        have C1 := fun W h1 h2 h3 => Common_any la lb ma mb (.agg #[.slice A la.length ca, .bool ma]) (.agg #[.slice A' lb.length cb, .bool mb]) W h1 h2 h3 true ⟨fun _ => ⟨hva, hvb⟩, fun _ => rfl⟩
        have C2 := fun W h1 h2 h3 => Common_any l1 l2 b1 b2 (.agg #[.slice A1 l1.length c1, .bool b1]) (.agg #[.slice A3 l2.length c3, .bool b2]) W h1 h2 h3 true ⟨fun _ => ⟨hva1, hvb1⟩, fun _ => rfl⟩
        rw [hcq] at C2
        generalize ratText (commonQ la lb 0) = tx at *
        clear hcq hva hvb hva1 hvb1
        simp only [if_true] at C1 C2
        go_wp2_with fail
        have hA := below_alloc w8 (.cells #[.slice A3 l2.length c3, .bool b2] 24)
        have k11 := Bk.new w8 24 #[.slice A3 l2.length c3, .bool b2]
        have m10 := m9.next hA
        have ha10 := ha9.next hA
        have hb10 := hb9.next hA
        have he10 := he9.next hA
        have hv10 := hv9.next hA
        have hu10 := hu9.next hA
        have k710 := k79.next' hA
        clear m9 ha9 hb9 he9 hv9 hu9 k79 x0 x1 y0 y1 p0 p1 q0 q1 lt1 lt2 lt3 lt7 hA
        obtain ⟨g11, hg11⟩ : ∃ g, g = w8.heap.size := ⟨_, rfl⟩
        rw [← hg11] at k11 ⊢
        clear hg11
        generalize w8.alloc (.cells #[.slice A3 l2.length c3, .bool b2] 24) = w9 at *
        refine (C1 w9 ha10 hb10 he10).mono ?_
        rintro e w10 ⟨hbm, rfl⟩
        have m11 := m10.next hbm
        have he11 := he10.next hbm
        have hv11 := hv10.next hbm
        have hu11 := hu10.next hbm
        have k711 := k710.next' hbm
        have k1111 := k11.next' hbm
        clear C1 m10 ha10 hb10 he10 hv10 hu10 k710 k11 hbm
        obtain ⟨q0, q1⟩ := bk2 k711
        obtain ⟨s0, s1⟩ := bk2 k1111
        go_wp2_with fail
        refine (C2 w10 hu11 hv11 he11).mono ?_
        rintro e w11 ⟨hbm, rfl⟩
        have hB := m11.below.trans (hbm.mono m11.below.size)
        clear C2 m11 he11 hv11 hu11 k711 k1111 hbm q0 q1 s0 s1
        go_wp2
        go_ret
        exact ⟨hB, rfl⟩
      · subst e0
        have f1 : ¬ ((F : Int) = 0) := by omega
        have f2 : ((F : Int) != 0) = true := by simp; omega
        clear HL1 HL2 HE HF HZ m9 ha9 hb9 he9 hu9 hv9 k79 f0
        go_wp2
        go_ret
        exact ⟨hB9, rfl⟩
    · have f1 : ¬ ((E : Int) = 0) := by omega
      have f2 : ((E : Int) != 0) = true := by simp; omega
      clear HL1 HL2 HE HF HZ m9 ha9 hb9 he9 hu9 hv9 k79 e0
      go_wp2
      go_ret
      exact ⟨hB9, rfl⟩
  · go_wp2_with fail
    refine (sane_any _ he2).mono ?_
    rintro e w2 ⟨hb3, rfl⟩
    have hB := m2.below.trans (hb3.mono m2.below.size)
    clear HE HF HZ m2 ha2 hb2 he2 hb3
    go_wp2
    go_ret
    exact ⟨hB, rfl⟩
end Go.Proofs.YtblopapobmbboaaDoor
