/-
  Walk: package regrid's Moved.
-/
import Derived.Test.YtblopapobmbboaaGreatDoorRegY
namespace Go.Proofs.YtblopapobmbboaaGreatDoor
open Go.RowKit Ar

theorem Tryz.place_info : (Tryz.prog.info? 33).map (fun i => (i.zero, i.size, i.bytes)) = some (some (.agg #[.int .i64 0, .int .i64 0]), 2, 16) := by kernel_rfl
/-- Corners moved. -/
def mvd (l : List Pl) (dx dy : Int) : List Pl := l.map fun p => (p.1 + dx, p.2 + dy)
def near (dx dy : Int) : Prop := -2097152 ≤ dx ∧ dx ≤ 2097152 ∧ -2097152 ≤ dy ∧ dy ≤ 2097152
/-- The error of moving a cell. -/
def MovedIs (l : List Pl) (dx dy : Int) (E : Nat) : Prop :=
  (¬ validC l ∧ E = 80) ∨ (validC l ∧ ¬ near dx dy ∧ E = 2) ∨ (validC l ∧ near dx dy ∧ ¬ (∀ p ∈ mvd l dx dy, okP p) ∧ E = 2) ∨ (validC l ∧ near dx dy ∧ (∀ p ∈ mvd l dx dy, okP p) ∧ E = 0)
theorem MovedIs.ex (l : List Pl) (dx dy : Int) : ∃ E, MovedIs l dx dy E := by
  by_cases h1 : validC l
  · by_cases h2 : near dx dy
    · by_cases h3 : ∀ p ∈ mvd l dx dy, okP p
      · exact ⟨0, .inr (.inr (.inr ⟨h1, h2, h3, rfl⟩))⟩
      · exact ⟨2, .inr (.inr (.inl ⟨h1, h2, h3, rfl⟩))⟩
    · exact ⟨2, .inr (.inl ⟨h1, h2, rfl⟩)⟩
  · exact ⟨80, .inl ⟨h1, rfl⟩⟩
theorem bool_of (p : Prop) : ∃ b : Bool, b = true ↔ p := by
  by_cases h : p
  · exact ⟨true, fun _ => h, fun _ => rfl⟩
  · exact ⟨false, fun e => (by cases e), fun e => absurd e h⟩
theorem mvd_len (l : List Pl) (dx dy : Int) : (mvd l dx dy).length = l.length := by unfold mvd; rw [List.length_map]
theorem mvd_at {l : List Pl} {dx dy : Int} {k : Nat} {p : Pl} (h : l[k]? = some p) : (mvd l dx dy)[k]? = some (p.1 + dx, p.2 + dy) := by unfold mvd; rw [List.getElem?_map, h]; rfl
theorem isC_nil (w : World) (B : Nat) : IsC w B (.agg #[.slice none 0 0, .bool false]) [] false := ⟨none, 0, rfl, Nat.le_refl _, Nat.zero_le _, (fun p hp => by cases hp), fun h => absurd rfl h⟩
theorem prow_app (l m : List Pl) : prow (l ++ m) = prow l ++ prow m := List.flatMap_append
theorem okP_in {p : Pl} (h : okP p) : in64 p.1 ∧ in64 p.2 := by unfold okP at h; unfold in64; omega
/-- A list of places of one's own is a cell's. -/
theorem own_isC {w : World} {base : Nat} {v : Value} {l : List Pl} (h : w.ownsRow base 33 2 v l.length (prow l)) (hi : ∀ p ∈ l, okP p) (m : Bool) : IsC w w.heap.size (.agg #[v, .bool m]) l m := by
  obtain ⟨A, c, e, hc, hcm⟩ : ∃ A c, v = .slice A l.length c ∧ l.length ≤ c ∧ c ≤ maxLen := by
    rcases h.2 with ⟨rfl, e⟩ | ⟨g, cap, cur, rfl, _, _, hnc, hcm, _⟩
    · exact ⟨none, 0, by rw [e], by omega, Nat.zero_le _⟩
    · exact ⟨_, _, rfl, hnc, hcm⟩
  subst e
  exact ⟨A, c, rfl, hc, hcm, fun p hp => okP_in (hi p hp), Rd.of_own h⟩
theorem below_set2 {B b : Nat} {w0 w : World} {x y : Value} (h : Below B w0 w) (hb : B ≤ b) : Below B w0 ((w.setCell ⟨b, 0, none⟩ x).setCell ⟨b, 1, none⟩ y) := (h.setCell (by exact hb) x).setCell (by exact hb) y
theorem own_next {w w' : World} {base : Nat} {e : TypeId} {size n : Nat} {v : Value} {xs : List Value} (h : w.ownsRow base e size v n xs) (hb : Below w.heap.size w w') : w'.ownsRow base e size v n xs :=
  h.kept (grown_of_below hb none) (by cases v.ownBlock <;> simp)
theorem own_slice {w : World} {base : Nat} {e : TypeId} {size n : Nat} {v : Value} {xs : List Value} (h : w.ownsRow base e size v n xs) : ∃ A c, v = .slice A n c ∧ n ≤ c := by
  rcases h.2 with ⟨rfl, h0⟩ | ⟨g, cap, cur, rfl, _, _, hc, _⟩
  · exact ⟨none, 0, by rw [h0], by omega⟩
  · exact ⟨_, cap, rfl, hc⟩
/-- A row of one's own outlives what is written elsewhere. -/
theorem own_set {w : World} {base b j : Nat} {e : TypeId} {size n : Nat} {v : Value} {xs : List Value} (h : w.ownsRow base e size v n xs) (hb : b < base) (u : Value) : (w.setCell ⟨b, j, none⟩ u).ownsRow base e size v n xs :=
  h.kept (grown_setCell w ⟨b, j, none⟩ u) (.inr fun e => by have := (h.lt b e).1; omega)
/-- What stands while a cell is moved. -/
structure Mv (w : World) (u : Value) (m : Bool) (bo k : Nat) (l : List Pl) (W : World) : Prop where
  below : Below w.heap.size w W
  k0 : Bk W w.heap.size 24 #[u, .bool m]
  k1 : Bk W (w.heap.size + 1) 24 #[.slice none 0 0, .bool false]
  out : ∃ x, Bk W bo 24 #[x, .bool m] ∧ W.ownsRow (bo + 1) 33 2 x k (prow l)

set_option maxRecDepth 100000 in
set_option maxHeartbeats 6400000 in
theorem Moved_any (l : List Pl) (m : Bool) (v : Value) (dx dy : Int) (w : World) (h : IsC w w.heap.size v l m) (E : Nat) (hE : MovedIs l dx dy E) :
    Calls Tryz.prog 24 #[v, .int .i64 dx, .int .i64 dy] w fun e w' => Below w.heap.size w w' ∧ ∃ v, e = .returned (.tuple #[v, .int .i64 (E : Int)]) ∧ IsC w' w'.heap.size v (if E = 0 then mvd l dx dy else []) (if E = 0 then m else false) := by
  obtain ⟨A, c, rfl⟩ := h.form
  obtain ⟨ok, hok⟩ : ∃ ok : Bool, ok = true ↔ validC l := bool_of _
  go_enter Tryz.func24, Tryz.ntmps24
  go_wp2_with fail
  have hB0 : Below w.heap.size w (((w.alloc (.cells #[.slice A l.length c, .bool m] 24)).alloc (.cells #[.slice none 0 0, .bool false] 24)).alloc (.cells #[.slice A l.length c, .bool m] 24)) := ((below_alloc w _).alloc (by simp) _).alloc (by simp; omega) _
  have k0 : Bk (((w.alloc (.cells #[.slice A l.length c, .bool m] 24)).alloc (.cells #[.slice none 0 0, .bool false] 24)).alloc (.cells #[.slice A l.length c, .bool m] 24)) w.heap.size 24 #[.slice A l.length c, .bool m] := ((Bk.new _ _ _).alloc _).alloc _
  have k1 : Bk (((w.alloc (.cells #[.slice A l.length c, .bool m] 24)).alloc (.cells #[.slice none 0 0, .bool false] 24)).alloc (.cells #[.slice A l.length c, .bool m] 24)) (w.heap.size + 1) 24 #[.slice none 0 0, .bool false] := (Bk.new2 _ _ _ _).alloc _
  have k3 := Bk.new3 w (.cells #[.slice A l.length c, .bool m] 24) (.cells #[.slice none 0 0, .bool false] 24) 24 #[.slice A l.length c, .bool m]
  generalize (((w.alloc (.cells #[.slice A l.length c, .bool m] 24)).alloc (.cells #[.slice none 0 0, .bool false] 24)).alloc (.cells #[.slice A l.length c, .bool m] 24)) = w0 at *
  have ha0 := (h.below hB0).more hB0.size
  have hcs := one_cell ha0 k3
  have CE := cells_any _ _ w0 (by simp) hcs (!ok) (by cases ok <;> simp at hok ⊢ <;> grind)
  refine CE.mono ?_
  rintro e w1 ⟨hb1, rfl⟩
  have k01 := k0.next' hb1
  have k11 := k1.next' hb1
  have hB1 := hB0.trans (hb1.mono hB0.size)
  obtain ⟨x0, x1⟩ := bk2 k01
  obtain ⟨y0, y1⟩ := bk2 k11
  have z0 := k11.frozen 0
  have z1 := k11.frozen 1
  have lt0 := k01.lt
  have lt1 := k11.lt
  clear CE k0 k1 k3 hcs hb1 hB0 ha0
  cases ok
  · have hv : ¬ validC l := fun h => by simpa using hok.2 h
    have hE80 : E = 80 := by rcases hE with h | h | h | h <;> first | exact h.2 | exact absurd h.1 hv
    subst hE80
    clear hE hok hv
    go_wp2
    refine bodyPost_ret (v := .tuple #[.agg #[.slice none 0 0, .bool false], .int .i64 80]) (by simp [results, Tryz.results24, go_sem, y0, y1]) rfl ?_
    exact ⟨below_set2 hB1 (Nat.le_succ _), _, rfl, isC_nil _ _⟩
  · have hv : validC l := hok.1 rfl
    have HE : Hid (MovedIs l dx dy E) := hE
    have hl8 := hv.2.1
    have okl := hv.2.2.1
    have HV := Lib.hid hv
    clear hE hok hv
    have E2 : ¬ near dx dy → E = 2 := fun hn => by
      rcases HE.out with h | h | h | h
      · exact absurd HV.out h.1
      · exact h.2.2
      · exact absurd h.2.1 hn
      · exact absurd h.2.1 hn
    by_cases c1 : dx < -2097152
    · have e2 := E2 (fun h => by unfold near at h; omega)
      subst e2
      clear E2
      go_wp2
      refine bodyPost_ret (v := .tuple #[.agg #[.slice none 0 0, .bool false], .int .i64 2]) (by simp [results, Tryz.results24, go_sem, y0, y1]) rfl ?_
      exact ⟨below_set2 hB1 (Nat.le_succ _), _, rfl, isC_nil _ _⟩
    by_cases c2 : 2097152 < dx
    · have e2 := E2 (fun h => by unfold near at h; omega)
      subst e2
      clear E2
      go_wp2
      refine bodyPost_ret (v := .tuple #[.agg #[.slice none 0 0, .bool false], .int .i64 2]) (by simp [results, Tryz.results24, go_sem, y0, y1]) rfl ?_
      exact ⟨below_set2 hB1 (Nat.le_succ _), _, rfl, isC_nil _ _⟩
    by_cases c3 : dy < -2097152
    · have e2 := E2 (fun h => by unfold near at h; omega)
      subst e2
      clear E2
      go_wp2
      refine bodyPost_ret (v := .tuple #[.agg #[.slice none 0 0, .bool false], .int .i64 2]) (by simp [results, Tryz.results24, go_sem, y0, y1]) rfl ?_
      exact ⟨below_set2 hB1 (Nat.le_succ _), _, rfl, isC_nil _ _⟩
    by_cases c4 : 2097152 < dy
    · have e2 := E2 (fun h => by unfold near at h; omega)
      subst e2
      clear E2
      go_wp2
      refine bodyPost_ret (v := .tuple #[.agg #[.slice none 0 0, .bool false], .int .i64 2]) (by simp [results, Tryz.results24, go_sem, y0, y1]) rfl ?_
      exact ⟨below_set2 hB1 (Nat.le_succ _), _, rfl, isC_nil _ _⟩
    have hnear : near dx dy := by unfold near; omega
    have HN : Hid (((∀ p ∈ mvd l dx dy, okP p) ∧ E = 0) ∨ (¬ (∀ p ∈ mvd l dx dy, okP p) ∧ E = 2)) := by
      show _ ∨ _
      rcases HE.out with h | h | h | h
      · exact absurd HV.out h.1
      · exact absurd hnear h.2.1
      · exact .inr h.2.2
      · exact .inl h.2.2
    clear E2 HE hnear
    obtain ⟨A0, c0, e0, hc, hcm, hin, hr⟩ := h
    simp at e0
    obtain ⟨rfl, rfl⟩ := e0
    go_wp2_with fail
    obtain ⟨bo, hbo⟩ : ∃ b, b = w1.heap.size := ⟨_, rfl⟩
    have mv0 : Mv w (.slice A l.length c) m bo 0 ((mvd l dx dy).take 0) (w1.alloc (.cells #[.slice none 0 0, .bool m] 24)) := by
      refine ⟨hB1.alloc hB1.size _, k01.alloc _, k11.alloc _, .slice none 0 0, by rw [hbo]; exact Bk.new _ _ _, ?_⟩
      exact World.ownsRow_nil _ _ _ _
    have lb1 : w.heap.size + 1 < bo := by rw [hbo]; exact lt1
    rw [← hbo]
    generalize (w1.alloc (.cells #[.slice none 0 0, .bool m] 24)) = W0 at *
    clear k01 k11 x0 x1 y0 y1 z0 z1 lt0 lt1 hB1 hbo
    obtain ⟨i0, hi0, hz0, hz1, hz2⟩ := info_parts Tryz.place_info
    go_loopw [40] (fun i wr => ∃ k : Nat, k ≤ l.length ∧ i = .int .i64 k ∧ (∀ p ∈ (mvd l dx dy).take k, okP p) ∧ Mv w (.slice A l.length c) m bo k ((mvd l dx dy).take k) wr) (fun i _ => l.length - (intOf i).toNat)
    case atStart => exact ⟨0, Nat.zero_le _, rfl, (fun p hp => by simp at hp), mv0⟩
    case round =>
      obtain ⟨k, hk, rfl, hall, hM⟩ := hrel
      obtain ⟨hB, kc, kr, x, ko, hown⟩ := hM
      rcases Nat.lt_or_ge k l.length with hlt | hge
      · obtain ⟨ad, rfl, hab, d1, d2⟩ := (hr.below hB).place (List.getElem?_eq_getElem hlt)
        have hokp := okl _ (List.getElem_mem hlt)
        have hmk := mvd_at (dx := dx) (dy := dy) (List.getElem?_eq_getElem hlt)
        have HT : Hid ((mvd l dx dy).take (k + 1) = (mvd l dx dy).take k ++ [(l[k].1 + dx, l[k].2 + dy)]) := by
          show _ = _
          rw [List.take_add_one, hmk]
          rfl
        have hlen : ((mvd l dx dy).take k).length = k := by rw [List.length_take, mvd_len]; omega
        have HM : Hid ((l[k].1 + dx, l[k].2 + dy) ∈ mvd l dx dy) := List.mem_of_getElem? hmk
        generalize l[k] = p at *
        obtain ⟨px, py⟩ := p
        unfold okP at hokp
        simp only at d1 d2 hokp HT HM
        clear hmk
        have ww1 : IntKind.i64.wrap (px + dx) = px + dx := IntWalk.i64_in _ (by omega)
        have ww2 : IntKind.i64.wrap (py + dy) = py + dy := IntWalk.i64_in _ (by omega)
        go_wp2_with fail
        have hbA := below_alloc wr (.cells #[.int .i64 (px + dx), .int .i64 (py + dy)] 33)
        obtain ⟨bp, hbp⟩ : ∃ b, b = wr.heap.size := ⟨_, rfl⟩
        have kp := Bk.new wr 33 #[.int .i64 (px + dx), .int .i64 (py + dy)]
        have kc2 := kc.next' hbA
        have kr2 := kr.next' hbA
        have ko2 := ko.next' hbA
        have hown2 := own_next hown hbA
        have hB2 := hB.trans (hbA.mono hB.size)
        have lo := ko.lt
        rw [← hbp] at kp ⊢
        generalize (wr.alloc (.cells #[.int .i64 (px + dx), .int .i64 (py + dy)] 33)) = w2 at *
        obtain ⟨q, hq⟩ : ∃ q, decide (okP (px + dx, py + dy)) = q := ⟨_, rfl⟩
        have PL := place_any (px + dx, py + dy) w2 (by unfold in64; omega) (by unfold in64; omega) q hq
        have HQ := Lib.hid hq
        unfold pv at PL
        refine PL.mono ?_
        rintro e w3 ⟨hb3, rfl⟩
        have kc3 := kc2.next' hb3
        have kr3 := kr2.next' hb3
        have ko3 := ko2.next' hb3
        have kp3 := kp.next' hb3
        have hown3 := own_next hown2 hb3
        have hB3 := hB2.trans (hb3.mono hB2.size)
        have lbp : bo < bp := by rw [hbp]; exact lo
        clear PL hq d1 d2 hB hB2 kc kr ko hown kc2 kr2 ko2 kp hown2 hbA hb3 lo hbp
        obtain ⟨y0, y1⟩ := bk2 kr3
        have z0 := kr3.frozen 0
        have z1 := kr3.frozen 1
        cases q
        · have e2 : E = 2 := by
            rcases HN.out with h | h
            · exact absurd (h.1 _ HM.out) (of_decide_eq_false HQ.out)
            · exact h.2
          subst e2
          go_wp2
          refine bodyPost_ret (v := .tuple #[.agg #[.slice none 0 0, .bool false], .int .i64 2]) (by simp [results, Tryz.results24, go_sem, y0, y1]) rfl ?_
          exact ⟨below_set2 hB3 (Nat.le_succ _), _, rfl, isC_nil _ _⟩
        · have okk : okP (px + dx, py + dy) := of_decide_eq_true HQ.out
          have HAL : Hid (∀ p ∈ (mvd l dx dy).take (k + 1), okP p) := by
            show ∀ p ∈ _, _
            rw [HT.out]
            intro p hp
            rcases List.mem_append.1 hp with h | h
            · exact hall p h
            · simp at h; subst h; exact okk
          clear hall okk y0 y1 z0 z1
          obtain ⟨o0, o1⟩ := bk2 ko3
          obtain ⟨p0, p1⟩ := bk2 kp3
          have f0 := ko3.frozen 0
          have lo3 := ko3.lt
          have lp3 := kp3.lt
          have hbA := below_alloc w3 (.cells #[.int .i64 (px + dx), .int .i64 (py + dy)] 33)
          have hownA := own_next hown3 hbA
          have hBA := hB3.trans (hbA.mono hB3.size)
          go_wp2_with (at_builtin; refine wpL_append _ rfl (.tmp 58) (.tmp 60) _ rfl (bo + 1) 33 i0 _ 2 16 Tryz.underlying22 hi0 hz0 hz1 hz2 rfl (by omega) _ k (prow ((mvd l dx dy).take k)) rfl hownA (some ⟨w3.heap.size, 0, none⟩) 1 1 [.int .i64 (px + dx), .int .i64 (py + dy)] rfl rfl (Rd.of_new w3 [.int .i64 (px + dx), .int .i64 (py + dy)] 33) (by intro u hu; simp at hu; rcases hu with rfl | rfl <;> rfl) (by unfold maxLen; omega) (by omega) (by simp; omega) ?_; intro v4 w4 hw1 hw2 _; obtain ⟨A4, c4, rfl, _⟩ := own_slice hw1; have ko4 := (ko3.alloc (.cells #[.int .i64 (px + dx), .int .i64 (py + dy)] 33)).grown hw2 (fun e => by have := (hownA.lt _ e.symm).1; omega); obtain ⟨o40, o41⟩ := bk2 ko4; have f40 := ko4.frozen 0)
          have hne : ∀ g, x.ownBlock = some g → bo + 1 ≤ g := fun g hg => (hownA.lt g hg).1
          have kc4 := (kc3.alloc _).grown hw2 fun e => by have := hne _ e.symm; omega
          have kr4 := (kr3.alloc _).grown hw2 fun e => by have := hne _ e.symm; omega
          have hB4 : Below w.heap.size w w4 := below_app hBA hw2 (by have := hBA.size; omega) hownA (by omega)
          have e1 : prow ((mvd l dx dy).take k) ++ [Value.int .i64 (px + dx), .int .i64 (py + dy)] = prow ((mvd l dx dy).take (k + 1)) := by
            rw [HT.out, prow_app]; rfl
          rw [e1] at hw1
          clear e1 kc3 kr3 ko3 hown3 hownA hBA hB3 hbA hw2 hne o0 o1 p0 p1 f0 lo3 lp3 kp3
          go_wp2
          go_roundw
          case rel => exact ⟨k + 1, by omega, by go_num, HAL.out, hB4.setCell (by exact Nat.le_of_lt (show w.heap.size < bo by omega)) _, kc4.far (by exact Nat.ne_of_lt (show w.heap.size < bo by omega)) _, kr4.far (by exact Nat.ne_of_lt (show w.heap.size + 1 < bo by omega)) _, _, ko4.put 0 _, own_set hw1 (Nat.lt_succ_self _) _⟩
          case measure => simp [intOf]; omega
      · have hkl : k = l.length := by omega
        subst hkl
        have htk : (mvd l dx dy).take l.length = mvd l dx dy := by rw [List.take_of_length_le]; rw [mvd_len]; exact Nat.le_refl _
        rw [htk] at hall hown
        have e0 : E = 0 := by
          rcases HN.out with h | h
          · exact h.2
          · exact absurd hall h.1
        subst e0
        rw [← mvd_len l dx dy] at hown
        have hC := own_isC hown hall m
        obtain ⟨A4, c4, rfl, _⟩ := own_slice hown
        obtain ⟨o0, o1⟩ := bk2 ko
        obtain ⟨r0, r1⟩ := bk2 kr
        have f0 := kr.frozen 0
        have f1 := kr.frozen 1
        have HC := Lib.hid hC
        have Hall := Lib.hid hall
        clear hC htk hall
        go_wp2
        refine bodyPost_ret (v := .tuple #[.agg #[.slice A4 (mvd l dx dy).length c4, .bool m], .int .i64 0]) (by simp [results, Tryz.results24, go_sem, r0, r1]) rfl ?_
        refine ⟨below_set2 hB (Nat.le_succ _), _, rfl, ?_⟩
        exact own_isC (own_set (own_set hown (by omega) _) (by omega) _) Hall.out m
end Go.Proofs.YtblopapobmbboaaGreatDoor
