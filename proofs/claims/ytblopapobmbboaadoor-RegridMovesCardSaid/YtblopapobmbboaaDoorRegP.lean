/-
  Walks: package regrid's Common and Area.
-/
import Derived.Test.YtblopapobmbboaaDoorRegO
namespace Go.Proofs.YtblopapobmbboaaDoor
open Go.RowKit Ar

theorem sz_two {q : Rat} (h : sz q ≤ 200000000000) : sz (q / 2) ≤ 200000000001 := by
  have := sz_div q 2 (by decide)
  have := sz_small 2 (by decide)
  have e0 : ((2 : Int) : Rat) = 2 := rfl
  rw [e0] at this
  omega
theorem commonQ_sz {la lb : List Pl} (ka : validC la) (kb : validC lb) {dx : Int} (hdx : -100000000 ≤ dx ∧ dx ≤ 100000000) : sz (commonQ la lb dx) ≤ 200000000001 := by
  unfold commonQ
  split
  · have := sz_small 0 (by decide)
    have e0 : ((0 : Int) : Rat) = 0 := rfl
    rw [e0] at this
    omega
  · exact sz_two ((cutOk ka kb hdx _ (Nat.le_refl _)).area kb.2.1 _ (by omega))
theorem areaC_sz {l : List Pl} (h : validC l) : sz (areaQ (poly l 0)) ≤ 200000000001 := sz_two ((areaOk h (dx := 0) (by omega)).area (by omega) _ (by show _ ∨ _ ≤ (poly l 0).length; omega))
/-- A list of two cells. -/
theorem two_cells {w : World} {b : Nat} {ua ub : Value} {la lb : List Pl} {ma mb : Bool} (ha : IsC w w.heap.size (.agg #[ua, .bool ma]) la ma) (hb : IsC w w.heap.size (.agg #[ub, .bool mb]) lb mb) (hk : Bk w b 24 #[ua, .bool ma, ub, .bool mb]) :
    IsCs w w.heap.size (.slice (some ⟨b, 0, none⟩) 2 2) [(la, ma), (lb, mb)] := by
  refine ⟨_, 2, [(ua, ma), (ub, mb)], rfl, Nat.le_refl _, rfl, hk.rd, ?_⟩
  intro i x hx
  match i, hx with
  | 0, hx => simp at hx; subst hx; exact ⟨ua, rfl, ha⟩
  | 1, hx => simp at hx; subst hx; exact ⟨ub, rfl, hb⟩
theorem one_cell {w : World} {b : Nat} {ua : Value} {la : List Pl} {ma : Bool} (ha : IsC w w.heap.size (.agg #[ua, .bool ma]) la ma) (hk : Bk w b 24 #[ua, .bool ma]) :
    IsCs w w.heap.size (.slice (some ⟨b, 0, none⟩) 1 1) [(la, ma)] := by
  refine ⟨_, 1, [(ua, ma)], rfl, Nat.le_refl _, rfl, hk.rd, ?_⟩
  intro i x hx
  match i, hx with
  | 0, hx => simp at hx; subst hx; exact ⟨ua, rfl, ha⟩
theorem Bk.new3 (w : World) (o o' : Obj) (t : TypeId) (cs : Array Value) : Bk (((w.alloc o).alloc o').alloc (.cells cs t)) (w.heap.size + 1 + 1) t cs := by simpa using Bk.new ((w.alloc o).alloc o') t cs

set_option maxRecDepth 100000 in
set_option maxHeartbeats 3200000 in
theorem Common_any (la lb : List Pl) (ma mb : Bool) (va vb : Value) (w : World) (ha : IsC w w.heap.size va la ma) (hb : IsC w w.heap.size vb lb mb) (he : EnvR w) (ok : Bool) (hok : ok = true ↔ validC la ∧ validC lb) :
    Calls Tryd.prog 9 #[va, vb] w fun e w' => Below w.heap.size w w' ∧ e = .returned (.tuple #[.string ⟨(if ok then ratText (commonQ la lb 0) else []).toArray⟩, .int .i64 (if ok then 0 else 80)]) := by
  obtain ⟨A, ca, rfl⟩ := ha.form
  obtain ⟨A', cb, rfl⟩ := hb.form
  go_enter Tryd.func9, Tryd.ntmps9
  go_wp2_with fail
  have hB0 : Below w.heap.size w (((w.alloc (.cells #[.slice A la.length ca, .bool ma] 24)).alloc (.cells #[.slice A' lb.length cb, .bool mb] 24)).alloc (.cells #[.slice A la.length ca, .bool ma, .slice A' lb.length cb, .bool mb] 24)) := ((below_alloc w _).alloc (by simp) _).alloc (by simp; omega) _
  have k1 : Bk (((w.alloc (.cells #[.slice A la.length ca, .bool ma] 24)).alloc (.cells #[.slice A' lb.length cb, .bool mb] 24)).alloc (.cells #[.slice A la.length ca, .bool ma, .slice A' lb.length cb, .bool mb] 24)) w.heap.size 24 #[.slice A la.length ca, .bool ma] := ((Bk.new _ _ _).alloc _).alloc _
  have k2 : Bk (((w.alloc (.cells #[.slice A la.length ca, .bool ma] 24)).alloc (.cells #[.slice A' lb.length cb, .bool mb] 24)).alloc (.cells #[.slice A la.length ca, .bool ma, .slice A' lb.length cb, .bool mb] 24)) (w.heap.size + 1) 24 #[.slice A' lb.length cb, .bool mb] := (Bk.new2 _ _ _ _).alloc _
  have k3 := Bk.new3 w (.cells #[.slice A la.length ca, .bool ma] 24) (.cells #[.slice A' lb.length cb, .bool mb] 24) 24 #[.slice A la.length ca, .bool ma, .slice A' lb.length cb, .bool mb]
  generalize (((w.alloc (.cells #[.slice A la.length ca, .bool ma] 24)).alloc (.cells #[.slice A' lb.length cb, .bool mb] 24)).alloc (.cells #[.slice A la.length ca, .bool ma, .slice A' lb.length cb, .bool mb] 24)) = w0 at *
  have ha0 := (ha.below hB0).more hB0.size
  have hb0 := (hb.below hB0).more hB0.size
  have hcs := two_cells ha0 hb0 k3
  have CE := cells_any _ _ w0 (by simp) hcs (!ok) (by cases ok <;> simp at hok ⊢ <;> grind)
  refine CE.mono ?_
  rintro e w1 ⟨hb1, rfl⟩
  have k11 := k1.next' hb1
  have k21 := k2.next' hb1
  have ha1 := ha0.next hb1
  have hb1' := hb0.next hb1
  have hB1 := hB0.trans (hb1.mono hB0.size)
  have he1 := he.next hB1
  obtain ⟨x0, x1⟩ := bk2 k11
  obtain ⟨y0, y1⟩ := bk2 k21
  clear CE k1 k2 k3 hcs hb1 hB0 ha0 hb0
  cases ok
  · clear hok
    go_wp2
    go_ret2
    exact ⟨hB1, rfl⟩
  · obtain ⟨ka, kb⟩ := hok.1 rfl
    clear hok
    have hsz := commonQ_sz ka kb (dx := 0) (by omega)
    have CM := common_any la lb ma mb _ _ 0 w1 ha1 hb1' ka kb (by omega)
    go_wp2_with fail
    refine CM.mono ?_
    rintro e w2 ⟨hb2, v2, rfl, y2⟩
    have LG := flong_any _ v2 w2 y2 (by omega) (he1.next hb2)
    go_wp2_with fail
    refine LG.mono ?_
    rintro e w3 ⟨hb3, rfl⟩
    have hB3 := (hB1.trans (hb2.mono hB1.size)).trans (hb3.mono (hB1.trans (hb2.mono hB1.size)).size)
    go_wp2
    go_ret2
    exact ⟨hB3, rfl⟩

set_option maxRecDepth 100000 in
set_option maxHeartbeats 3200000 in
theorem Area_any (la : List Pl) (ma : Bool) (va : Value) (w : World) (ha : IsC w w.heap.size va la ma) (he : EnvR w) (ok : Bool) (hok : ok = true ↔ validC la) :
    Calls Tryd.prog 10 #[va] w fun e w' => Below w.heap.size w w' ∧ e = .returned (.tuple #[.string ⟨(if ok then ratText (areaQ (poly la 0)) else []).toArray⟩, .int .i64 (if ok then 0 else 80)]) := by
  obtain ⟨A, ca, rfl⟩ := ha.form
  go_enter Tryd.func10, Tryd.ntmps10
  go_wp2_with fail
  have hB0 : Below w.heap.size w ((w.alloc (.cells #[.slice A la.length ca, .bool ma] 24)).alloc (.cells #[.slice A la.length ca, .bool ma] 24)) := (below_alloc w _).alloc (by simp) _
  have k1 : Bk ((w.alloc (.cells #[.slice A la.length ca, .bool ma] 24)).alloc (.cells #[.slice A la.length ca, .bool ma] 24)) w.heap.size 24 #[.slice A la.length ca, .bool ma] := (Bk.new _ _ _).alloc _
  have k3 : Bk ((w.alloc (.cells #[.slice A la.length ca, .bool ma] 24)).alloc (.cells #[.slice A la.length ca, .bool ma] 24)) (w.heap.size + 1) 24 #[.slice A la.length ca, .bool ma] := Bk.new2 _ _ _ _
  generalize ((w.alloc (.cells #[.slice A la.length ca, .bool ma] 24)).alloc (.cells #[.slice A la.length ca, .bool ma] 24)) = w0 at *
  have ha0 := (ha.below hB0).more hB0.size
  have hcs := one_cell ha0 k3
  have CE := cells_any _ _ w0 (by simp) hcs (!ok) (by cases ok <;> simp at hok ⊢ <;> grind)
  refine CE.mono ?_
  rintro e w1 ⟨hb1, rfl⟩
  have k11 := k1.next' hb1
  have ha1 := ha0.next hb1
  have hB1 := hB0.trans (hb1.mono hB0.size)
  have he1 := he.next hB1
  obtain ⟨x0, x1⟩ := bk2 k11
  clear CE k1 k3 hcs hb1 hB0 ha0
  cases ok
  · clear hok
    go_wp2
    go_ret2
    exact ⟨hB1, rfl⟩
  · have ka := hok.1 rfl
    clear hok
    have hsz := areaC_sz ka
    have CO := areaOk ka (dx := 0) (by omega)
    have h8 := ka.2.1
    have PG := polygon_any la ma _ 0 w1 ha1 (by omega) (by omega) ka.2.2.1
    go_wp2_with fail
    refine PG.mono ?_
    rintro e w2 ⟨hb2, v2, rfl, y2⟩
    have AR := area_any (poly la 0) v2 1 w2 y2 (by rw [poly_len]; omega) (by omega) CO.szs (CO.area (by omega))
    go_wp2_with fail
    refine AR.mono ?_
    rintro e w3 ⟨hb3, v3, rfl, y3⟩
    have he3 := (he1.next hb2).next hb3
    have LG := flong_any _ v3 w3 y3 (by omega) he3
    go_wp2_with fail
    refine LG.mono ?_
    rintro e w4 ⟨hb4, rfl⟩
    have hB2 := hB1.trans (hb2.mono hB1.size)
    have hB3 := hB2.trans (hb3.mono hB2.size)
    have hB4 := hB3.trans (hb4.mono hB3.size)
    go_wp2
    go_ret2
    exact ⟨hB4, rfl⟩
end Go.Proofs.YtblopapobmbboaaDoor
