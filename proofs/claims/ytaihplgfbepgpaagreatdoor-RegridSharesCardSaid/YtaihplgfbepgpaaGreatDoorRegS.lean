/-
  Walk: package regrid's Moved.
  Plain laws: cells that are moved together keep what they have in common; rectangles are valid cells, and those of a grid have nothing in common; what a square and a triangle have in common.
  Words: cells under way, a row of the call's own.
  Plain law: the cells between ascending numbers are valid, and no two of them have a part in common.
-/
import Derived.Test.YtaihplgfbepgpaaGreatDoorRegY
namespace Go.Proofs.YtaihplgfbepgpaaGreatDoor
open Go.RowKit Ar

theorem Tryz.place_info : (Tryz.prog.info? 50).map (fun i => (i.zero, i.size, i.bytes)) = some (some (.agg #[.int .i64 0, .int .i64 0]), 2, 16) := by kernel_rfl
/-- Corners moved. -/
def mvd (l : List Pl) (dx dy : Int) : List Pl := l.map fun p => (p.1 + dx, p.2 + dy)
def near (dx dy : Int) : Prop := -2097152 ≤ dx ∧ dx ≤ 2097152 ∧ -2097152 ≤ dy ∧ dy ≤ 2097152
/-- The error of moving a cell. -/
def MovedIs (l : List Pl) (dx dy : Int) (E : Nat) : Prop :=
  (¬ validC l ∧ E = 80) ∨ (validC l ∧ ¬ near dx dy ∧ E = 2) ∨ (validC l ∧ near dx dy ∧ ¬ (∀ p ∈ mvd l dx dy, okP p) ∧ E = 2) ∨ (validC l ∧ near dx dy ∧ (∀ p ∈ mvd l dx dy, okP p) ∧ E = 0)
theorem MovedIs.ex (l : List Pl) (dx dy : Int) : ∃ E, MovedIs l dx dy E := by
  by_cases h1 : validC l
  · by_cases h2 : near dx dy
    · by_cases h3 : ∀ p ∈ mvd l dx dy, okP p
      · exact ⟨0, .inr (.inr (.inr ⟨h1, h2, h3, rfl⟩))⟩
      · exact ⟨2, .inr (.inr (.inl ⟨h1, h2, h3, rfl⟩))⟩
    · exact ⟨2, .inr (.inl ⟨h1, h2, rfl⟩)⟩
  · exact ⟨80, .inl ⟨h1, rfl⟩⟩
theorem bool_of (p : Prop) : ∃ b : Bool, b = true ↔ p := by
  by_cases h : p
  · exact ⟨true, fun _ => h, fun _ => rfl⟩
  · exact ⟨false, fun e => (by cases e), fun e => absurd e h⟩
theorem mvd_len (l : List Pl) (dx dy : Int) : (mvd l dx dy).length = l.length := by unfold mvd; rw [List.length_map]
theorem mvd_at {l : List Pl} {dx dy : Int} {k : Nat} {p : Pl} (h : l[k]? = some p) : (mvd l dx dy)[k]? = some (p.1 + dx, p.2 + dy) := by unfold mvd; rw [List.getElem?_map, h]; rfl
theorem isC_nil (w : World) (B : Nat) : IsC w B (.agg #[.slice none 0 0, .bool false]) [] false := ⟨none, 0, rfl, Nat.le_refl _, Nat.zero_le _, (fun p hp => by cases hp), fun h => absurd rfl h⟩
theorem prow_app (l m : List Pl) : prow (l ++ m) = prow l ++ prow m := List.flatMap_append
theorem okP_in {p : Pl} (h : okP p) : in64 p.1 ∧ in64 p.2 := by unfold okP at h; unfold in64; omega
/-- A list of places of one's own is a cell's. -/
theorem own_isC {w : World} {base : Nat} {v : Value} {l : List Pl} (h : w.ownsRow base 50 2 v l.length (prow l)) (hi : ∀ p ∈ l, okP p) (m : Bool) : IsC w w.heap.size (.agg #[v, .bool m]) l m := by
  obtain ⟨A, c, e, hc, hcm⟩ : ∃ A c, v = .slice A l.length c ∧ l.length ≤ c ∧ c ≤ maxLen := by
    rcases h.2 with ⟨rfl, e⟩ | ⟨g, cap, cur, rfl, _, _, hnc, hcm, _⟩
    · exact ⟨none, 0, by rw [e], by omega, Nat.zero_le _⟩
    · exact ⟨_, _, rfl, hnc, hcm⟩
  subst e
  exact ⟨A, c, rfl, hc, hcm, fun p hp => okP_in (hi p hp), Rd.of_own h⟩
theorem below_set2 {B b : Nat} {w0 w : World} {x y : Value} (h : Below B w0 w) (hb : B ≤ b) : Below B w0 ((w.setCell ⟨b, 0, none⟩ x).setCell ⟨b, 1, none⟩ y) := (h.setCell (by exact hb) x).setCell (by exact hb) y
theorem own_next {w w' : World} {base : Nat} {e : TypeId} {size n : Nat} {v : Value} {xs : List Value} (h : w.ownsRow base e size v n xs) (hb : Below w.heap.size w w') : w'.ownsRow base e size v n xs :=
  h.kept (grown_of_below hb none) (by cases v.ownBlock <;> simp)
theorem own_slice {w : World} {base : Nat} {e : TypeId} {size n : Nat} {v : Value} {xs : List Value} (h : w.ownsRow base e size v n xs) : ∃ A c, v = .slice A n c ∧ n ≤ c := by
  rcases h.2 with ⟨rfl, h0⟩ | ⟨g, cap, cur, rfl, _, _, hc, _⟩
  · exact ⟨none, 0, by rw [h0], by omega⟩
  · exact ⟨_, cap, rfl, hc⟩
/-- A row of one's own outlives what is written elsewhere. -/
theorem own_set {w : World} {base b j : Nat} {e : TypeId} {size n : Nat} {v : Value} {xs : List Value} (h : w.ownsRow base e size v n xs) (hb : b < base) (u : Value) : (w.setCell ⟨b, j, none⟩ u).ownsRow base e size v n xs :=
  h.kept (grown_setCell w ⟨b, j, none⟩ u) (.inr fun e => by have := (h.lt b e).1; omega)
/-- What stands while a cell is moved. -/
structure Mv (w : World) (u : Value) (m : Bool) (bo k : Nat) (l : List Pl) (W : World) : Prop where
  below : Below w.heap.size w W
  k0 : Bk W w.heap.size 33 #[u, .bool m]
  k1 : Bk W (w.heap.size + 1) 33 #[.slice none 0 0, .bool false]
  out : ∃ x, Bk W bo 33 #[x, .bool m] ∧ W.ownsRow (bo + 1) 50 2 x k (prow l)

set_option maxRecDepth 100000 in
set_option maxHeartbeats 6400000 in
theorem Moved_any (l : List Pl) (m : Bool) (v : Value) (dx dy : Int) (w : World) (h : IsC w w.heap.size v l m) (E : Nat) (hE : MovedIs l dx dy E) :
    Calls Tryz.prog 16 #[v, .int .i64 dx, .int .i64 dy] w fun e w' => Below w.heap.size w w' ∧ ∃ v, e = .returned (.tuple #[v, .int .i64 (E : Int)]) ∧ IsC w' w'.heap.size v (if E = 0 then mvd l dx dy else []) (if E = 0 then m else false) := by
  obtain ⟨A, c, rfl⟩ := h.form
  obtain ⟨ok, hok⟩ : ∃ ok : Bool, ok = true ↔ validC l := bool_of _
  go_enter Tryz.func16, Tryz.ntmps16
  go_wp2_with fail
  have hB0 : Below w.heap.size w (((w.alloc (.cells #[.slice A l.length c, .bool m] 33)).alloc (.cells #[.slice none 0 0, .bool false] 33)).alloc (.cells #[.slice A l.length c, .bool m] 33)) := ((below_alloc w _).alloc (by simp) _).alloc (by simp; omega) _
  have k0 : Bk (((w.alloc (.cells #[.slice A l.length c, .bool m] 33)).alloc (.cells #[.slice none 0 0, .bool false] 33)).alloc (.cells #[.slice A l.length c, .bool m] 33)) w.heap.size 33 #[.slice A l.length c, .bool m] := ((Bk.new _ _ _).alloc _).alloc _
  have k1 : Bk (((w.alloc (.cells #[.slice A l.length c, .bool m] 33)).alloc (.cells #[.slice none 0 0, .bool false] 33)).alloc (.cells #[.slice A l.length c, .bool m] 33)) (w.heap.size + 1) 33 #[.slice none 0 0, .bool false] := (Bk.new2 _ _ _ _).alloc _
  have k3 := Bk.new3 w (.cells #[.slice A l.length c, .bool m] 33) (.cells #[.slice none 0 0, .bool false] 33) 33 #[.slice A l.length c, .bool m]
  generalize (((w.alloc (.cells #[.slice A l.length c, .bool m] 33)).alloc (.cells #[.slice none 0 0, .bool false] 33)).alloc (.cells #[.slice A l.length c, .bool m] 33)) = w0 at *
  have ha0 := (h.below hB0).more hB0.size
  have hcs := one_cell ha0 k3
  have CE := cells_any _ _ w0 (by simp) hcs (!ok) (by cases ok <;> simp at hok ⊢ <;> grind)
  refine CE.mono ?_
  rintro e w1 ⟨hb1, rfl⟩
  have k01 := k0.next' hb1
  have k11 := k1.next' hb1
  have hB1 := hB0.trans (hb1.mono hB0.size)
  obtain ⟨x0, x1⟩ := bk2 k01
  obtain ⟨y0, y1⟩ := bk2 k11
  have z0 := k11.frozen 0
  have z1 := k11.frozen 1
  have lt0 := k01.lt
  have lt1 := k11.lt
  clear CE k0 k1 k3 hcs hb1 hB0 ha0
  cases ok
  · have hv : ¬ validC l := fun h => by simpa using hok.2 h
    have hE80 : E = 80 := by rcases hE with h | h | h | h <;> first | exact h.2 | exact absurd h.1 hv
    subst hE80
    clear hE hok hv
    go_wp2
    refine bodyPost_ret (v := .tuple #[.agg #[.slice none 0 0, .bool false], .int .i64 80]) (by simp [results, Tryz.results16, go_sem, y0, y1]) rfl ?_
    exact ⟨below_set2 hB1 (Nat.le_succ _), _, rfl, isC_nil _ _⟩
  · have hv : validC l := hok.1 rfl
    have HE : Hid (MovedIs l dx dy E) := hE
    have hl8 := hv.2.1
    have okl := hv.2.2.1
    have HV := Lib.hid hv
    clear hE hok hv
    have E2 : ¬ near dx dy → E = 2 := fun hn => by
      rcases HE.out with h | h | h | h
      · exact absurd HV.out h.1
      · exact h.2.2
      · exact absurd h.2.1 hn
      · exact absurd h.2.1 hn
    by_cases c1 : dx < -2097152
    · have e2 := E2 (fun h => by unfold near at h; omega)
      subst e2
      clear E2
      go_wp2
      refine bodyPost_ret (v := .tuple #[.agg #[.slice none 0 0, .bool false], .int .i64 2]) (by simp [results, Tryz.results16, go_sem, y0, y1]) rfl ?_
      exact ⟨below_set2 hB1 (Nat.le_succ _), _, rfl, isC_nil _ _⟩
    by_cases c2 : 2097152 < dx
    · have e2 := E2 (fun h => by unfold near at h; omega)
      subst e2
      clear E2
      go_wp2
      refine bodyPost_ret (v := .tuple #[.agg #[.slice none 0 0, .bool false], .int .i64 2]) (by simp [results, Tryz.results16, go_sem, y0, y1]) rfl ?_
      exact ⟨below_set2 hB1 (Nat.le_succ _), _, rfl, isC_nil _ _⟩
    by_cases c3 : dy < -2097152
    · have e2 := E2 (fun h => by unfold near at h; omega)
      subst e2
      clear E2
      go_wp2
      refine bodyPost_ret (v := .tuple #[.agg #[.slice none 0 0, .bool false], .int .i64 2]) (by simp [results, Tryz.results16, go_sem, y0, y1]) rfl ?_
      exact ⟨below_set2 hB1 (Nat.le_succ _), _, rfl, isC_nil _ _⟩
    by_cases c4 : 2097152 < dy
    · have e2 := E2 (fun h => by unfold near at h; omega)
      subst e2
      clear E2
      go_wp2
      refine bodyPost_ret (v := .tuple #[.agg #[.slice none 0 0, .bool false], .int .i64 2]) (by simp [results, Tryz.results16, go_sem, y0, y1]) rfl ?_
      exact ⟨below_set2 hB1 (Nat.le_succ _), _, rfl, isC_nil _ _⟩
    have hnear : near dx dy := by unfold near; omega
    have HN : Hid (((∀ p ∈ mvd l dx dy, okP p) ∧ E = 0) ∨ (¬ (∀ p ∈ mvd l dx dy, okP p) ∧ E = 2)) := by
      show _ ∨ _
      rcases HE.out with h | h | h | h
      · exact absurd HV.out h.1
      · exact absurd hnear h.2.1
      · exact .inr h.2.2
      · exact .inl h.2.2
    clear E2 HE hnear
    obtain ⟨A0, c0, e0, hc, hcm, hin, hr⟩ := h
    simp at e0
    obtain ⟨rfl, rfl⟩ := e0
    go_wp2_with fail
    obtain ⟨bo, hbo⟩ : ∃ b, b = w1.heap.size := ⟨_, rfl⟩
    have mv0 : Mv w (.slice A l.length c) m bo 0 ((mvd l dx dy).take 0) (w1.alloc (.cells #[.slice none 0 0, .bool m] 33)) := by
      refine ⟨hB1.alloc hB1.size _, k01.alloc _, k11.alloc _, .slice none 0 0, by rw [hbo]; exact Bk.new _ _ _, ?_⟩
      exact World.ownsRow_nil _ _ _ _
    have lb1 : w.heap.size + 1 < bo := by rw [hbo]; exact lt1
    rw [← hbo]
    generalize (w1.alloc (.cells #[.slice none 0 0, .bool m] 33)) = W0 at *
    clear k01 k11 x0 x1 y0 y1 z0 z1 lt0 lt1 hB1 hbo
    obtain ⟨i0, hi0, hz0, hz1, hz2⟩ := info_parts Tryz.place_info
    go_loopw [40] (fun i wr => ∃ k : Nat, k ≤ l.length ∧ i = .int .i64 k ∧ (∀ p ∈ (mvd l dx dy).take k, okP p) ∧ Mv w (.slice A l.length c) m bo k ((mvd l dx dy).take k) wr) (fun i _ => l.length - (intOf i).toNat)
    case atStart => exact ⟨0, Nat.zero_le _, rfl, (fun p hp => by simp at hp), mv0⟩
    case round =>
      obtain ⟨k, hk, rfl, hall, hM⟩ := hrel
      obtain ⟨hB, kc, kr, x, ko, hown⟩ := hM
      rcases Nat.lt_or_ge k l.length with hlt | hge
      · obtain ⟨ad, rfl, hab, d1, d2⟩ := (hr.below hB).place (List.getElem?_eq_getElem hlt)
        have hokp := okl _ (List.getElem_mem hlt)
        have hmk := mvd_at (dx := dx) (dy := dy) (List.getElem?_eq_getElem hlt)
        have HT : Hid ((mvd l dx dy).take (k + 1) = (mvd l dx dy).take k ++ [(l[k].1 + dx, l[k].2 + dy)]) := by
          show _ = _
          rw [List.take_add_one, hmk]
          rfl
        have hlen : ((mvd l dx dy).take k).length = k := by rw [List.length_take, mvd_len]; omega
        have HM : Hid ((l[k].1 + dx, l[k].2 + dy) ∈ mvd l dx dy) := List.mem_of_getElem? hmk
        generalize l[k] = p at *
        obtain ⟨px, py⟩ := p
        unfold okP at hokp
        simp only at d1 d2 hokp HT HM
        clear hmk
        have ww1 : IntKind.i64.wrap (px + dx) = px + dx := IntWalk.i64_in _ (by omega)
        have ww2 : IntKind.i64.wrap (py + dy) = py + dy := IntWalk.i64_in _ (by omega)
        go_wp2_with fail
        have hbA := below_alloc wr (.cells #[.int .i64 (px + dx), .int .i64 (py + dy)] 50)
        obtain ⟨bp, hbp⟩ : ∃ b, b = wr.heap.size := ⟨_, rfl⟩
        have kp := Bk.new wr 50 #[.int .i64 (px + dx), .int .i64 (py + dy)]
        have kc2 := kc.next' hbA
        have kr2 := kr.next' hbA
        have ko2 := ko.next' hbA
        have hown2 := own_next hown hbA
        have hB2 := hB.trans (hbA.mono hB.size)
        have lo := ko.lt
        rw [← hbp] at kp ⊢
        generalize (wr.alloc (.cells #[.int .i64 (px + dx), .int .i64 (py + dy)] 50)) = w2 at *
        obtain ⟨q, hq⟩ : ∃ q, decide (okP (px + dx, py + dy)) = q := ⟨_, rfl⟩
        have PL := place_any (px + dx, py + dy) w2 (by unfold in64; omega) (by unfold in64; omega) q hq
        have HQ := Lib.hid hq
        unfold pv at PL
        refine PL.mono ?_
        rintro e w3 ⟨hb3, rfl⟩
        have kc3 := kc2.next' hb3
        have kr3 := kr2.next' hb3
        have ko3 := ko2.next' hb3
        have kp3 := kp.next' hb3
        have hown3 := own_next hown2 hb3
        have hB3 := hB2.trans (hb3.mono hB2.size)
        have lbp : bo < bp := by rw [hbp]; exact lo
        clear PL hq d1 d2 hB hB2 kc kr ko hown kc2 kr2 ko2 kp hown2 hbA hb3 lo hbp
        obtain ⟨y0, y1⟩ := bk2 kr3
        have z0 := kr3.frozen 0
        have z1 := kr3.frozen 1
        cases q
        · have e2 : E = 2 := by
            rcases HN.out with h | h
            · exact absurd (h.1 _ HM.out) (of_decide_eq_false HQ.out)
            · exact h.2
          subst e2
          go_wp2
          refine bodyPost_ret (v := .tuple #[.agg #[.slice none 0 0, .bool false], .int .i64 2]) (by simp [results, Tryz.results16, go_sem, y0, y1]) rfl ?_
          exact ⟨below_set2 hB3 (Nat.le_succ _), _, rfl, isC_nil _ _⟩
        · have okk : okP (px + dx, py + dy) := of_decide_eq_true HQ.out
          have HAL : Hid (∀ p ∈ (mvd l dx dy).take (k + 1), okP p) := by
            show ∀ p ∈ _, _
            rw [HT.out]
            intro p hp
            rcases List.mem_append.1 hp with h | h
            · exact hall p h
            · simp at h; subst h; exact okk
          clear hall okk y0 y1 z0 z1
          obtain ⟨o0, o1⟩ := bk2 ko3
          obtain ⟨p0, p1⟩ := bk2 kp3
          have f0 := ko3.frozen 0
          have lo3 := ko3.lt
          have lp3 := kp3.lt
          have hbA := below_alloc w3 (.cells #[.int .i64 (px + dx), .int .i64 (py + dy)] 50)
          have hownA := own_next hown3 hbA
          have hBA := hB3.trans (hbA.mono hB3.size)
          go_wp2_with (at_builtin; refine wpL_append _ rfl (.tmp 58) (.tmp 60) _ rfl (bo + 1) 50 i0 _ 2 16 Tryz.underlying31 hi0 hz0 hz1 hz2 rfl (by omega) _ k (prow ((mvd l dx dy).take k)) rfl hownA (some ⟨w3.heap.size, 0, none⟩) 1 1 [.int .i64 (px + dx), .int .i64 (py + dy)] rfl rfl (Rd.of_new w3 [.int .i64 (px + dx), .int .i64 (py + dy)] 50) (by intro u hu; simp at hu; rcases hu with rfl | rfl <;> rfl) (by unfold maxLen; omega) (by omega) (by simp; omega) ?_; intro v4 w4 hw1 hw2 _; obtain ⟨A4, c4, rfl, _⟩ := own_slice hw1; have ko4 := (ko3.alloc (.cells #[.int .i64 (px + dx), .int .i64 (py + dy)] 50)).grown hw2 (fun e => by have := (hownA.lt _ e.symm).1; omega); obtain ⟨o40, o41⟩ := bk2 ko4; have f40 := ko4.frozen 0)
          have hne : ∀ g, x.ownBlock = some g → bo + 1 ≤ g := fun g hg => (hownA.lt g hg).1
          have kc4 := (kc3.alloc _).grown hw2 fun e => by have := hne _ e.symm; omega
          have kr4 := (kr3.alloc _).grown hw2 fun e => by have := hne _ e.symm; omega
          have hB4 : Below w.heap.size w w4 := below_app hBA hw2 (by have := hBA.size; omega) hownA (by omega)
          have e1 : prow ((mvd l dx dy).take k) ++ [Value.int .i64 (px + dx), .int .i64 (py + dy)] = prow ((mvd l dx dy).take (k + 1)) := by
            rw [HT.out, prow_app]; rfl
          rw [e1] at hw1
          clear e1 kc3 kr3 ko3 hown3 hownA hBA hB3 hbA hw2 hne o0 o1 p0 p1 f0 lo3 lp3 kp3
          go_wp2
          go_roundw
          case rel => exact ⟨k + 1, by omega, by go_num, HAL.out, hB4.setCell (by exact Nat.le_of_lt (show w.heap.size < bo by omega)) _, kc4.far (by exact Nat.ne_of_lt (show w.heap.size < bo by omega)) _, kr4.far (by exact Nat.ne_of_lt (show w.heap.size + 1 < bo by omega)) _, _, ko4.put 0 _, own_set hw1 (Nat.lt_succ_self _) _⟩
          case measure => simp [intOf]; omega
      · have hkl : k = l.length := by omega
        subst hkl
        have htk : (mvd l dx dy).take l.length = mvd l dx dy := by rw [List.take_of_length_le]; rw [mvd_len]; exact Nat.le_refl _
        rw [htk] at hall hown
        have e0 : E = 0 := by
          rcases HN.out with h | h
          · exact h.2
          · exact absurd hall h.1
        subst e0
        rw [← mvd_len l dx dy] at hown
        have hC := own_isC hown hall m
        obtain ⟨A4, c4, rfl, _⟩ := own_slice hown
        obtain ⟨o0, o1⟩ := bk2 ko
        obtain ⟨r0, r1⟩ := bk2 kr
        have f0 := kr.frozen 0
        have f1 := kr.frozen 1
        have HC := Lib.hid hC
        have Hall := Lib.hid hall
        clear hC htk hall
        go_wp2
        refine bodyPost_ret (v := .tuple #[.agg #[.slice A4 (mvd l dx dy).length c4, .bool m], .int .i64 0]) (by simp [results, Tryz.results16, go_sem, r0, r1]) rfl ?_
        refine ⟨below_set2 hB (Nat.le_succ _), _, rfl, ?_⟩
        exact own_isC (own_set (own_set hown (by omega) _) (by omega) _) Hall.out m
end Go.Proofs.YtaihplgfbepgpaaGreatDoor

namespace Go.Proofs.YtaihplgfbepgpaaGreatDoor
open Go.RowKit Ar

theorem commonQ_geo (la lb : List Pl) (dx : Int) : commonQ la lb dx = if apartB (bbox la) (shiftB (bbox lb) dx) then 0 else Geo.fanArea (Geo.clipAll ((poly la 0).map toP) (Geo.cyc ((poly lb dx).map toP))) / 2 := by
  unfold commonQ
  rw [areaQ_eq, ← poly_len lb dx, cutAll_eq]
theorem poly_mvd (l : List Pl) (dx dy : Int) : (poly (mvd l dx dy) 0).map toP = ((poly l 0).map toP).map (Geo.mv ⟨(dx : Rat), (dy : Rat)⟩) := by
  unfold poly mvd
  rw [List.map_map, List.map_map, List.map_map, List.map_map]
  refine List.map_congr_left fun p _ => ?_
  show toP (qp (p.1 + dx, p.2 + dy) 0) = Geo.mv ⟨(dx : Rat), (dy : Rat)⟩ (toP (qp p 0))
  unfold toP qp Geo.mv
  simp only [Rat.intCast_add, Int.add_zero]
def moveB (b : Bx) (dx dy : Int) : Bx := (b.1 + dx, b.2.1 + dx, b.2.2.1 + dy, b.2.2.2 + dy)
theorem fold_mvd (dx dy : Int) : ∀ (l : List Pl) (b : Bx), (mvd l dx dy).foldl bstep (moveB b dx dy) = moveB (l.foldl bstep b) dx dy
  | [], _ => rfl
  | p :: l, b => by
    have e : bstep (moveB b dx dy) (p.1 + dx, p.2 + dy) = moveB (bstep b p) dx dy := by
      unfold bstep moveB
      simp only [Prod.mk.injEq]
      omega
    show (mvd l dx dy).foldl bstep (bstep (moveB b dx dy) (p.1 + dx, p.2 + dy)) = moveB (l.foldl bstep (bstep b p)) dx dy
    rw [e]
    exact fold_mvd dx dy l _
theorem bbox_mvd {l : List Pl} (h : 0 < l.length) (dx dy : Int) : bbox (mvd l dx dy) = moveB (bbox l) dx dy := by
  cases l with
  | nil => simp at h
  | cons p l => exact fold_mvd dx dy (p :: l) (p.1, p.1, p.2, p.2)
/-- Cells that are moved together keep what they have in common. -/
theorem commonQ_mvd {la lb : List Pl} (ha : 0 < la.length) (hb : 0 < lb.length) (dx dy : Int) : commonQ (mvd la dx dy) (mvd lb dx dy) 0 = commonQ la lb 0 := by
  rw [commonQ_geo, commonQ_geo, poly_mvd, poly_mvd, Geo.common_mv, bbox_mvd ha, bbox_mvd hb]
  have e : apartB (moveB (bbox la) dx dy) (shiftB (moveB (bbox lb) dx dy) 0) ↔ apartB (bbox la) (shiftB (bbox lb) 0) := by
    unfold apartB moveB shiftB
    simp only
    omega
  simp only [e]
theorem cn_mvd {l : List Pl} {i : Nat} (hi : i < l.length) (dx dy : Int) : cn (mvd l dx dy) i = ((cn l i).1 + dx, (cn l i).2 + dy) := by
  have h := mvd_at (dx := dx) (dy := dy) (cn_at hi)
  unfold cn at *
  rw [List.getD_eq_getElem?_getD, h]
  rfl
theorem trn_mvd (a b c : Pl) (dx dy : Int) : trn (a.1 + dx, a.2 + dy) (b.1 + dx, b.2 + dy) (c.1 + dx, c.2 + dy) = trn a b c := by
  unfold trn
  simp only [show ∀ x y z : Int, x + z - (y + z) = x - y from fun x y z => by omega]
theorem onP_mvd (a b c : Pl) (dx dy : Int) : onP (a.1 + dx, a.2 + dy) (b.1 + dx, b.2 + dy) (c.1 + dx, c.2 + dy) ↔ onP a b c := by
  unfold onP
  simp only
  omega
theorem tch_mvd (a b c d : Pl) (dx dy : Int) : tch (a.1 + dx, a.2 + dy) (b.1 + dx, b.2 + dy) (c.1 + dx, c.2 + dy) (d.1 + dx, d.2 + dy) ↔ tch a b c d := by
  unfold tch
  simp only [trn_mvd, onP_mvd]
/-- A valid cell that is moved within the limits is valid. -/
theorem validC_mvd {l : List Pl} (h : validC l) {dx dy : Int} (hp : ∀ p ∈ mvd l dx dy, okP p) : validC (mvd l dx dy) := by
  obtain ⟨h3, h8, _, hv⟩ := h
  refine ⟨by rw [mvd_len]; exact h3, by rw [mvd_len]; exact h8, hp, fun i hi => ?_⟩
  rw [mvd_len] at hi ⊢
  have m : ∀ j, j % l.length < l.length := fun j => Nat.mod_lt _ (by omega)
  obtain ⟨h1, h2⟩ := hv i hi
  refine ⟨?_, fun k hk hkl hne => ?_⟩
  · rw [cn_mvd hi, cn_mvd (m _), cn_mvd (m _), trn_mvd]; exact h1
  · rw [cn_mvd hi, cn_mvd (show i + 1 < l.length by omega), cn_mvd hkl, cn_mvd (m _), tch_mvd]
    exact h2 k hk hkl hne

/-- A rectangle's corners. -/
def rect (l r b t : Int) : List Pl := [(l, b), (r, b), (r, t), (l, t)]
theorem rect_valid {l r b t : Int} (hl : l < r) (hb : b < t) (h1 : -1048576 ≤ l) (h2 : r ≤ 1048576) (h3 : -1048576 ≤ b) (h4 : t ≤ 1048576) : validC (rect l r b t) := by
  have hp : 0 < (r - l) * (t - b) := Int.mul_pos (by omega) (by omega)
  have e0 : ∀ x : Int, x - x = 0 := fun x => by omega
  have n1 : (l - r) * (b - t) = (r - l) * (t - b) := by rw [← Int.neg_sub r l, ← Int.neg_sub t b, Int.neg_mul_neg]
  have n2 : (l - r) * (t - b) = -((r - l) * (t - b)) := by rw [← Int.neg_sub r l, Int.neg_mul]
  have n3 : (t - b) * (l - r) = -((r - l) * (t - b)) := by rw [Int.mul_comm, n2]
  have n4 : (b - t) * (r - l) = -((r - l) * (t - b)) := by rw [Int.mul_comm, ← Int.neg_sub t b, Int.mul_neg]
  have n5 : (b - t) * (l - r) = (r - l) * (t - b) := by rw [Int.mul_comm, n1]
  have n6 : (t - b) * (r - l) = (r - l) * (t - b) := Int.mul_comm _ _
  have n7 : (r - l) * (b - t) = -((r - l) * (t - b)) := by rw [← Int.neg_sub t b, Int.mul_neg]
  have sp : ∀ {x : Int}, 0 < x → sgn x = 1 := fun {x} h => by unfold sgn; rw [if_neg (by omega), if_neg (by omega)]
  have sn : ∀ {x : Int}, 0 < x → sgn (-x) = -1 := fun {x} h => by unfold sgn; rw [if_pos (by omega)]
  refine ⟨(show 3 ≤ 4 by decide), (show 4 ≤ 8 by decide), ?_, ?_⟩
  · intro p hp
    unfold rect at hp
    simp only [List.mem_cons, List.not_mem_nil, or_false] at hp
    unfold okP
    rcases hp with rfl | rfl | rfl | rfl <;> simp only <;> omega
  · intro i hi
    have hi4 : i < 4 := hi
    have c0 : cn (rect l r b t) 0 = (l, b) := rfl
    have c1 : cn (rect l r b t) 1 = (r, b) := rfl
    have c2 : cn (rect l r b t) 2 = (r, t) := rfl
    have c3 : cn (rect l r b t) 3 = (l, t) := rfl
    have el : (rect l r b t).length = 4 := rfl
    rw [el]
    rcases (show i = 0 ∨ i = 1 ∨ i = 2 ∨ i = 3 by omega) with rfl | rfl | rfl | rfl
    · refine ⟨?_, fun k hk hk4 hne => ?_⟩
      · show 0 < trn (cn _ 0) (cn _ 1) (cn _ 2)
        rw [c0, c1, c2]; unfold trn; simp only [e0]; omega
      · obtain rfl : k = 2 := by omega
        show ¬ tch (cn _ 0) (cn _ 1) (cn _ 2) (cn _ 3)
        rw [c0, c1, c2, c3]
        unfold tch trn
        simp only [e0, Int.zero_mul, Int.mul_zero, Int.sub_zero, n1, sp hp]
        simp
    · refine ⟨?_, fun k hk hk4 hne => ?_⟩
      · show 0 < trn (cn _ 1) (cn _ 2) (cn _ 3)
        rw [c1, c2, c3]; unfold trn; simp only [e0, n3]; omega
      · obtain rfl : k = 3 := by omega
        show ¬ tch (cn _ 1) (cn _ 2) (cn _ 3) (cn _ 0)
        rw [c0, c1, c2, c3]
        unfold tch trn
        simp only [e0, Int.zero_mul, Int.mul_zero, Int.zero_sub, n3, n4, Int.neg_neg, sp hp]
        simp
    · refine ⟨?_, fun k hk hk4 hne => by omega⟩
      show 0 < trn (cn _ 2) (cn _ 3) (cn _ 0)
      rw [c0, c2, c3]; unfold trn; simp only [e0, n1]; omega
    · refine ⟨?_, fun k hk hk4 hne => by omega⟩
      show 0 < trn (cn _ 3) (cn _ 0) (cn _ 1)
      rw [c0, c1, c3]; unfold trn; simp only [e0, n4]; omega
theorem rect_box {l r b t : Int} (hl : l < r) (hb : b < t) : bbox (rect l r b t) = (l, r, b, t) := by
  show [(l, b), (r, b), (r, t), (l, t)].foldl bstep (l, l, b, b) = _
  simp only [List.foldl_cons, List.foldl_nil, bstep, Prod.mk.injEq]
  omega
/-- What the sanity check asks. -/
theorem sane_common : commonQ [(0, 0), (2, 0), (2, 2), (0, 2)] [(1, 1), (3, 1), (1, 3)] 0 = 1 := by decide +kernel
theorem sane_text : ratText 1 = [49] := by decide +kernel
theorem sane_a : validC [(0, 0), (2, 0), (2, 2), (0, 2)] := rect_valid (l := 0) (r := 2) (b := 0) (t := 2) (by omega) (by omega) (by omega) (by omega) (by omega) (by omega)
theorem sane_b : validC [(1, 1), (3, 1), (1, 3)] := by
  refine ⟨by decide, by decide, by decide, ?_⟩
  intro i hi
  have hi3 : i < 3 := hi
  rcases (show i = 0 ∨ i = 1 ∨ i = 2 by omega) with rfl | rfl | rfl
  · refine ⟨by decide, fun k hk hk4 hne => ?_⟩
    have hk4 : k < 3 := hk4
    obtain rfl : k = 2 := by omega
    exact absurd (by decide) hne
  · refine ⟨by decide, fun k hk hk4 hne => ?_⟩
    have hk4 : k < 3 := hk4
    omega
  · refine ⟨by decide, fun k hk hk4 hne => ?_⟩
    have hk4 : k < 3 := hk4
    omega
end Go.Proofs.YtaihplgfbepgpaaGreatDoor

namespace Go.Proofs.YtaihplgfbepgpaaGreatDoor
open Go.RowKit Ar

theorem prow_int {l : List Pl} {u : Value} (h : u ∈ prow l) : ∃ n, u = .int .i64 n := by
  unfold prow at h
  obtain ⟨p, _, h⟩ := List.mem_flatMap.1 h
  simp only [List.mem_cons, List.not_mem_nil, or_false] at h
  rcases h with rfl | rfl
  · exact ⟨_, rfl⟩
  · exact ⟨_, rfl⟩
theorem IsC.kept {w w' : World} {B : Nat} {v : Value} {l : List Pl} {m : Bool} (h : IsC w B v l m) (hg : Ints w w') : IsC w' B v l m := by
  obtain ⟨A, c, e, h1, h2, h3, h4⟩ := h
  refine ⟨A, c, e, h1, h2, h3, fun hn => ?_⟩
  obtain ⟨ad, e2, hb, hc⟩ := h4 hn
  refine ⟨ad, e2, hb, fun j u hu => ?_⟩
  have h5 := hc j u hu
  obtain ⟨n, rfl⟩ := prow_int (List.mem_of_getElem? hu)
  exact hg _ _ _ h5
theorem crow_app (S T : List (Value × Bool)) : crow (S ++ T) = crow S ++ crow T := List.flatMap_append
/-- Cells under way. -/
def OwnCs (w : World) (base : Nat) (v : Value) (L : List Ce) : Prop :=
  ∃ S : List (Value × Bool), S.length = L.length ∧ w.ownsRow base 33 2 v L.length (crow S) ∧ NoIntB w v.ownBlock ∧ ∀ (i : Nat) (x : Ce), L[i]? = some x → ∃ u, S[i]? = some (u, x.2) ∧ IsC w w.heap.size (.agg #[u, .bool x.2]) x.1 x.2
theorem OwnCs.nil (w : World) (base : Nat) : OwnCs w base (.slice none 0 0) [] := ⟨[], rfl, World.ownsRow_nil _ _ _ _, fun b hb => by simp [Value.ownBlock] at hb, fun i p h => by simp at h⟩
theorem OwnCs.form {w : World} {base : Nat} {v : Value} {l : List Ce} (h : OwnCs w base v l) : ∃ A c, v = .slice A l.length c := by
  obtain ⟨S, _, hown, _⟩ := h
  rcases hown.2 with ⟨rfl, e⟩ | ⟨g, cap, cur, rfl, _⟩
  · exact ⟨none, 0, by rw [e]⟩
  · exact ⟨_, _, rfl⟩
theorem OwnCs.is {w : World} {base : Nat} {v : Value} {l : List Ce} (h : OwnCs w base v l) : IsCs w w.heap.size v l := by
  obtain ⟨S, h1, hown, _, h2⟩ := h
  have hrd := hown.2
  obtain ⟨A, c, e, hc⟩ : ∃ A c, v = .slice A l.length c ∧ l.length ≤ c := by
    rcases hrd with ⟨rfl, e⟩ | ⟨g, cap, cur, rfl, _, _, hnc, _⟩
    · exact ⟨none, 0, by rw [e], by omega⟩
    · exact ⟨_, _, rfl, hnc⟩
  subst e
  exact ⟨A, c, S, rfl, hc, h1, Rd.of_own hown, h2⟩
theorem OwnCs.keep {w w' : World} {base : Nat} {v : Value} {l : List Ce} (h : OwnCs w base v l) (hb : Below w.heap.size w w') : OwnCs w' base v l := by
  obtain ⟨S, h1, hown, hni, h2⟩ := h
  refine ⟨S, h1, hown.kept (grown_of_below hb none) ?_, fun b hbk j k i hc => ?_, fun i p hp => ?_⟩
  · cases v.ownBlock with
    | none => exact .inl rfl
    | some g => exact .inr (by simp)
  · have hlt : b < w.heap.size := by
      rcases hown.2 with ⟨rfl, _⟩ | ⟨g, cap, cur, rfl, _, hg, _⟩
      · simp [Value.ownBlock] at hbk
      · have : g = b := by simpa [Value.ownBlock] using hbk
        subst this
        exact (Array.getElem?_eq_some_iff.1 hg).1
    exact hni b hbk j k i ((hb.cell (p := ⟨b, j, none⟩) hlt).symm.trans hc)
  · obtain ⟨s, k1, k2⟩ := h2 i p hp
    exact ⟨s, k1, k2.next hb⟩
theorem OwnCs.add {w w' : World} {base : Nat} {v v' u : Value} {L : List Ce} {x : Ce} {S : List (Value × Bool)} (h1 : S.length = L.length) (hni : NoIntB w v.ownBlock) (h2 : ∀ (i : Nat) (x : Ce), L[i]? = some x → ∃ u, S[i]? = some (u, x.2) ∧ IsC w w.heap.size (.agg #[u, .bool x.2]) x.1 x.2)
    (hs : IsC w w.heap.size (.agg #[u, .bool x.2]) x.1 x.2) (hown : w'.ownsRow base 33 2 v' (L.length + 1) (crow S ++ [u, .bool x.2])) (hg : w.grownBy w' v.ownBlock) (hn' : NoIntB w' v'.ownBlock) : OwnCs w' base v' (L ++ [x]) := by
  have hI := ints_grown hg hni
  refine ⟨S ++ [(u, x.2)], by simp [h1], ?_, hn', fun i q hq => ?_⟩
  · rw [List.length_append, List.length_singleton, crow_app]
    exact hown
  · rcases Nat.lt_or_ge i L.length with hi | hi
    · rw [List.getElem?_append_left hi] at hq
      obtain ⟨s', k1, k2⟩ := h2 i q hq
      exact ⟨s', by rw [List.getElem?_append_left (by omega)]; exact k1, (k2.kept hI).more hg.size⟩
    · rw [List.getElem?_append_right hi] at hq
      have hi0 : i - L.length = 0 := by
        rcases Nat.eq_zero_or_pos (i - L.length) with h0 | h0
        · exact h0
        · rw [List.getElem?_eq_none (by simp; omega)] at hq; cases hq
      rw [hi0] at hq
      simp at hq
      subst hq
      exact ⟨u, by rw [List.getElem?_append_right (by omega), h1, hi0]; rfl, (hs.kept hI).more hg.size⟩
theorem IsCs.form {w : World} {B : Nat} {v : Value} {L : List Ce} (h : IsCs w B v L) : ∃ A c, v = .slice A L.length c := by
  obtain ⟨A, c, S, e, _⟩ := h
  exact ⟨A, c, e⟩
/-- What cells give a walk at one place. -/
theorem IsCs.at {w : World} {B : Nat} {A : Option Addr} {n c : Nat} {L : List Ce} (h : IsCs w B (.slice A n c) L) {i : Nat} {x : Ce} (hx : L[i]? = some x) :
    ∃ ad A2 c2, A = some ad ∧ ad.block < B ∧ w.cell? (ad.add (i * 2)) = some (.slice A2 x.1.length c2) ∧ w.cell? ⟨(ad.add (i * 2)).block, (ad.add (i * 2)).off + 1, none⟩ = some (.bool x.2) ∧ IsC w B (.agg #[.slice A2 x.1.length c2, .bool x.2]) x.1 x.2 := by
  obtain ⟨A', c', S, e, _, _, hr, h4⟩ := h
  injection e with e _ _
  subst e
  obtain ⟨u, hu, hC⟩ := h4 i x hx
  obtain ⟨ad, rfl, hab, d1, d2⟩ := hr.cellAt hu
  obtain ⟨A2, c2, e2⟩ := hC.form
  have e2' : u = .slice A2 x.1.length c2 := by
    injection e2 with e2
    simpa using e2
  subst e2'
  exact ⟨ad, A2, c2, rfl, hab, d1, d2, hC⟩
end Go.Proofs.YtaihplgfbepgpaaGreatDoor

namespace Go.Proofs.YtaihplgfbepgpaaGreatDoor
open Go.RowKit Ar

/-- A number of a list. -/
def nth (l : List Int) (i : Nat) : Int := l.getD i 0
theorem nth_at {l : List Int} {i : Nat} (hi : i < l.length) : l[i]? = some (nth l i) := by
  unfold nth
  rw [List.getD_eq_getElem?_getD, List.getElem?_eq_getElem hi]
  rfl
/-- Number i is a place, above the one ahead of it. -/
def ascI (l : List Int) (i : Nat) : Prop := -1048576 ≤ nth l i ∧ nth l i ≤ 1048576 ∧ (0 < i → nth l (i - 1) < nth l i)
/-- Numbers are places in ascending order, at least two. -/
def ascP (l : List Int) : Prop := 2 ≤ l.length ∧ ∀ i, i < l.length → ascI l i
theorem asc_lt {l : List Int} (h : ascP l) {i : Nat} : ∀ {j : Nat}, i < j → j < l.length → nth l i < nth l j
  | 0, h1, _ => by omega
  | j + 1, h1, h2 => by
    have h3 := (h.2 (j + 1) h2).2.2 (by omega)
    rw [Nat.add_sub_cancel] at h3
    rcases Nat.lt_or_ge i j with h4 | h4
    · exact Int.lt_trans (asc_lt h h4 (by omega)) h3
    · have : i = j := by omega
      subst this
      exact h3
theorem asc_le {l : List Int} (h : ascP l) {i j : Nat} (h1 : i ≤ j) (h2 : j < l.length) : nth l i ≤ nth l j := by
  rcases Nat.lt_or_ge i j with h4 | h4
  · exact Int.le_of_lt (asc_lt h h4 h2)
  · have : i = j := by omega
    subst this
    exact Int.le_refl _
/-- The cell in row j and column i. -/
def recAt (xs ys : List Int) (j i : Nat) : Ce := (rect (nth xs i) (nth xs (i + 1)) (nth ys j) (nth ys (j + 1)), false)
/-- So many cells of the grid. -/
def recN (xs ys : List Int) (k : Nat) : List Ce := (List.range k).map fun k => recAt xs ys (k / (xs.length - 1)) (k % (xs.length - 1))
theorem recN_len (xs ys : List Int) (k : Nat) : (recN xs ys k).length = k := by unfold recN; rw [List.length_map, List.length_range]
theorem recN_step (xs ys : List Int) (j i : Nat) (hi : i < xs.length - 1) : recN xs ys (j * (xs.length - 1) + i + 1) = recN xs ys (j * (xs.length - 1) + i) ++ [recAt xs ys j i] := by
  unfold recN
  rw [List.range_succ, List.map_append]
  have e1 : (j * (xs.length - 1) + i) / (xs.length - 1) = j := by
    rw [Nat.mul_comm, Nat.mul_add_div (by omega), Nat.div_eq_of_lt hi, Nat.add_zero]
  have e2 : (j * (xs.length - 1) + i) % (xs.length - 1) = i := by
    rw [Nat.mul_comm, Nat.mul_add_mod, Nat.mod_eq_of_lt hi]
  simp only [List.map_cons, List.map_nil, e1, e2]
theorem recN_at {xs ys : List Int} {n k : Nat} (h : k < n) : (recN xs ys n)[k]? = some (recAt xs ys (k / (xs.length - 1)) (k % (xs.length - 1))) := by
  unfold recN
  rw [List.getElem?_map, List.getElem?_range h]
  rfl
theorem rec_valid {xs ys : List Int} (hx : ascP xs) (hy : ascP ys) {j i : Nat} (hi : i + 1 < xs.length) (hj : j + 1 < ys.length) : validC (recAt xs ys j i).1 :=
  rect_valid (asc_lt hx (Nat.lt_succ_self i) hi) (asc_lt hy (Nat.lt_succ_self j) hj) (hx.2 i (by omega)).1 (hx.2 _ hi).2.1 (hy.2 j (by omega)).1 (hy.2 _ hj).2.1
/-- Two cells of the grid have nothing in common. -/
theorem rec_apart {xs ys : List Int} (hx : ascP xs) (hy : ascP ys) {j i j' i' : Nat} (hi : i + 1 < xs.length) (hj : j + 1 < ys.length) (hi' : i' + 1 < xs.length) (hj' : j' + 1 < ys.length) (hne : ¬ (j = j' ∧ i = i')) :
    commonQ (recAt xs ys j i).1 (recAt xs ys j' i').1 0 = 0 := by
  unfold commonQ
  rw [if_pos]
  unfold recAt
  rw [rect_box (asc_lt hx (Nat.lt_succ_self i) hi) (asc_lt hy (Nat.lt_succ_self j) hj), rect_box (asc_lt hx (Nat.lt_succ_self i') hi') (asc_lt hy (Nat.lt_succ_self j') hj')]
  unfold apartB shiftB
  simp only [Int.add_zero]
  rcases Nat.lt_trichotomy i i' with h | h | h
  · exact .inl (asc_le hx h (by omega))
  · rcases Nat.lt_trichotomy j j' with h2 | h2 | h2
    · exact .inr (.inr (.inl (asc_le hy h2 (by omega))))
    · exact absurd ⟨h2, h⟩ hne
    · exact .inr (.inr (.inr (asc_le hy h2 (by omega))))
  · exact .inr (.inl (asc_le hx h (by omega)))
/-- Valid cells of which no two have a part in common. -/
def flatG (L : List Ce) : Prop := ∀ (i k : Nat) (x y : Ce), L[i]? = some x → L[k]? = some y → k < i → ¬ 0 < commonQ x.1 y.1 0
theorem recN_ix {xs ys : List Int} {k : Nat} (h2 : 2 ≤ xs.length) (hk : k < (xs.length - 1) * (ys.length - 1)) : k % (xs.length - 1) + 1 < xs.length ∧ k / (xs.length - 1) + 1 < ys.length := by
  have h3 : k % (xs.length - 1) < xs.length - 1 := Nat.mod_lt _ (by omega)
  have h4 : k / (xs.length - 1) < ys.length - 1 := Nat.div_lt_of_lt_mul hk
  exact ⟨Nat.add_lt_of_lt_sub h3, Nat.add_lt_of_lt_sub h4⟩
theorem recs_valid {xs ys : List Int} (hx : ascP xs) (hy : ascP ys) : ∀ x ∈ recN xs ys ((xs.length - 1) * (ys.length - 1)), validC x.1 := fun x h => by
  obtain ⟨k, hk⟩ := List.getElem?_of_mem h
  have hlt : k < (xs.length - 1) * (ys.length - 1) := by
    have := (List.getElem?_eq_some_iff.1 hk).1
    rwa [recN_len] at this
  rw [recN_at hlt] at hk
  injection hk with hk
  subst hk
  obtain ⟨h1, h2⟩ := recN_ix hx.1 hlt
  exact rec_valid hx hy h1 h2
theorem recs_flat {xs ys : List Int} (hx : ascP xs) (hy : ascP ys) : flatG (recN xs ys ((xs.length - 1) * (ys.length - 1))) := fun i k x y hi hk hlt => by
  have hlti : i < (xs.length - 1) * (ys.length - 1) := by
    have := (List.getElem?_eq_some_iff.1 hi).1
    rwa [recN_len] at this
  have hltk : k < (xs.length - 1) * (ys.length - 1) := by omega
  rw [recN_at hlti] at hi
  rw [recN_at hltk] at hk
  injection hi with hi
  injection hk with hk
  subst hi
  subst hk
  obtain ⟨h1, h2⟩ := recN_ix hx.1 hlti
  obtain ⟨h3, h4⟩ := recN_ix hx.1 hltk
  rw [rec_apart hx hy h1 h2 h3 h4]
  · exact fun h => absurd h (by decide)
  · rintro ⟨e1, e2⟩
    have := Nat.div_add_mod i (xs.length - 1)
    have h5 := Nat.div_add_mod k (xs.length - 1)
    rw [← e1, ← e2] at h5
    omega
end Go.Proofs.YtaihplgfbepgpaaGreatDoor
