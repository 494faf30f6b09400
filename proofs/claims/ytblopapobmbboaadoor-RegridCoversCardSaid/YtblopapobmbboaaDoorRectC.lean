/-
  Walks: the cells of a grid of rectangles, in the program and in the reference.
-/
import Derived.Test.YtblopapobmbboaaDoorRecA
namespace Go.Proofs.YtblopapobmbboaaDoor
open Go.RowKit Ar

theorem Tryd.cell_info : (Tryd.prog.info? 24).map (fun i => (i.zero, i.size, i.bytes)) = some (some (.agg #[.slice none 0 0, .bool false]), 2, 32) := by kernel_rfl
def zce : Value := .agg #[.slice none 0 0, .bool false]
theorem zce_no : ∀ u ∈ zce.cells.toList, noInt u := by
  intro u hu k i
  simp [zce, Value.cells] at hu
  rcases hu with rfl | rfl <;> simp
theorem isCs_nil (w : World) (B : Nat) : IsCs w B (.slice none 0 0) [] := ⟨none, 0, [], rfl, Nat.le_refl _, rfl, (fun h => absurd rfl h), fun i x h => by simp at h⟩
theorem new_cells1 (w : World) (o : Obj) (cs : List Value) (t : TypeId) : ∀ j u, cs[j]? = some u → ((w.alloc o).alloc (.cells cs.toArray t)).cell? ((⟨w.heap.size + 1, 0, none⟩ : Addr).add j) = some u := fun j u hu => by
  have := new_cells (w.alloc o) cs t j u hu
  simpa using this
/-- A rectangle's corners in a block of their own. -/
theorem rect_isC {w : World} {b : Nat} {l r x y : Int} (hk : Bk w b 42 #[.int .i64 l, .int .i64 x, .int .i64 r, .int .i64 x, .int .i64 r, .int .i64 y, .int .i64 l, .int .i64 y])
    (h1 : in64 l ∧ in64 r) (h2 : in64 x ∧ in64 y) : IsC w w.heap.size (.agg #[.slice (some ⟨b, 0, none⟩) 4 4, .bool false]) (rect l r x y) false := by
  refine ⟨some ⟨b, 0, none⟩, 4, rfl, Nat.le_refl _, by unfold maxLen; decide, ?_, hk.rd⟩
  intro p hp
  unfold rect at hp
  simp only [List.mem_cons, List.not_mem_nil, or_false] at hp
  rcases hp with rfl | rfl | rfl | rfl
  · exact ⟨h1.1, h2.1⟩
  · exact ⟨h1.2, h2.1⟩
  · exact ⟨h1.2, h2.2⟩
  · exact ⟨h1.1, h2.2⟩
theorem asc_in {l : List Int} (h : ascP l) {i : Nat} (hi : i < l.length) : in64 (nth l i) := by
  have h1 := h.2 i hi
  unfold ascI at h1
  unfold in64
  omega

set_option maxRecDepth 100000 in
set_option maxHeartbeats 6400000 in
theorem rects_any (A A' : Option Addr) (c c' : Nat) (xs ys : List Int) (w : World) (hx : xs.length ≤ 1000) (hy : ys.length ≤ 1000) (h : Rd w w.heap.size A (irow xs)) (h' : Rd w w.heap.size A' (irow ys)) (ok : Bool) (hok : ok = true ↔ ascP xs ∧ ascP ys ∧ (xs.length - 1) * (ys.length - 1) ≤ 64) :
    Calls Tryd.prog 17 #[.slice A xs.length c, .slice A' ys.length c'] w fun e w' => Below w.heap.size w w' ∧ ∃ v, e = .returned (.tuple #[v, .int .i64 (if ok then 0 else 2)]) ∧ IsCs w' w'.heap.size v (if ok then recN xs ys ((xs.length - 1) * (ys.length - 1)) else []) := by
  obtain ⟨z1, hz1⟩ : ∃ z : Bool, z = true ↔ ascP xs := bool_of _
  obtain ⟨z2, hz2⟩ : ∃ z : Bool, z = true ↔ ascP ys := bool_of _
  obtain ⟨nx, hnx⟩ : ∃ n, n = xs.length - 1 := ⟨_, rfl⟩
  obtain ⟨ny, hny⟩ : ∃ n, n = ys.length - 1 := ⟨_, rfl⟩
  obtain ⟨N, hN⟩ : ∃ N, N = nx * ny := ⟨_, rfl⟩
  rw [← hnx, ← hny, ← hN] at hok ⊢
  have HNX := Lib.hid hnx
  have HNY := Lib.hid hny
  have HN := Lib.hid hN
  have hnx' : nx ≤ 1000 := by omega
  have hny' : ny ≤ 1000 := by omega
  clear hnx hny hN
  have HOK := Lib.hid hok
  have HZ1 := Lib.hid hz1
  have HZ2 := Lib.hid hz2
  clear hok hz1 hz2
  obtain ⟨i0, hi0, hz0, hz1, hz2⟩ := info_parts Tryd.cell_info
  go_enter Tryd.func17, Tryd.ntmps17
  go_wp2_with fail
  refine (ascends_any A c xs w (by omega) h z1 HZ1.out).mono ?_
  rintro e w1 ⟨hb1, rfl⟩
  cases z1
  · have hof : ok = false := by
      cases hoo : ok
      · rfl
      · exact absurd (HZ1.out.2 (HOK.out.1 hoo).1) (by decide)
    subst hof
    go_wp2
    go_ret2
    exact ⟨hb1, _, rfl, isCs_nil _ _⟩
  have hxa := HZ1.out.1 rfl
  have hr1 := (h'.below hb1).more hb1.size
  go_wp2_with fail
  refine (ascends_any A' c' ys w1 (by omega) hr1 z2 HZ2.out).mono ?_
  rintro e w2 ⟨hb2, rfl⟩
  have hB2 := hb1.trans (hb2.mono hb1.size)
  cases z2
  · have hof : ok = false := by
      cases hoo : ok
      · rfl
      · exact absurd (HZ2.out.2 (HOK.out.1 hoo).2.1) (by decide)
    subst hof
    go_wp2
    go_ret2
    exact ⟨hB2, _, rfl, isCs_nil _ _⟩
  have hya := HZ2.out.1 rfl
  clear HZ1 HZ2 hr1 hb1 hb2
  have hx2 := hxa.1
  have hy2 := hya.1
  have hnx := HNX.out
  have hny := HNY.out
  have HX : Hid (ascP xs) := hxa
  have HY : Hid (ascP ys) := hya
  have e1 : IntKind.i64.wrap ((xs.length : Int) - 1) = (nx : Int) := (IntWalk.i64_in _ (by omega)).trans (by omega)
  have e2 : IntKind.i64.wrap ((ys.length : Int) - 1) = (ny : Int) := (IntWalk.i64_in _ (by omega)).trans (by omega)
  have hmul : nx * ny ≤ 1000 * 1000 := Nat.mul_le_mul (by omega) (by omega)
  have e3 : IntKind.i64.wrap ((nx : Int) * (ny : Int)) = (N : Int) := by
    rw [HN.out, Int.natCast_mul]
    exact IntWalk.i64_in _ (by have h1 : ((nx * ny : Nat) : Int) = (nx : Int) * (ny : Int) := Int.natCast_mul _ _; omega)
  clear hnx hny hxa hya hmul
  cases ok
  · have h64 : ¬ N ≤ 64 := fun h => absurd (HOK.out.2 ⟨HX.out, HY.out, h⟩) (by decide)
    have t64 : decide ((64 : Int) < (N : Int)) = true := decide_eq_true (by omega)
    go_wp2
    go_ret2
    exact ⟨hB2, _, rfl, isCs_nil _ _⟩
  have h64 : N ≤ 64 := (HOK.out.1 rfl).2.2
  have t64 : decide ((64 : Int) < (N : Int)) = false := decide_eq_false (by omega)
  go_wp2_with fail
  go_loopw [6, 34] (fun u i wr => ∃ j : Nat, j ≤ ny ∧ i = .int .i64 j ∧ OwnCs wr w.heap.size u (recN xs ys (j * nx)) ∧ Below w.heap.size w wr) (fun _ i _ => ny - (intOf i).toNat)
  case atStart => exact ⟨0, Nat.zero_le _, rfl, by rw [Nat.zero_mul]; exact OwnCs.nil _ _, hB2⟩
  case round =>
    clear hB2
    obtain ⟨j, hj, rfl, hO, hB⟩ := hrel
    obtain ⟨A5, c5, rfl⟩ := hO.form
    rcases Nat.lt_or_ge j ny with hlj | hgj
    · go_wp2_with fail
      go_loopw [6, 40] (fun u i wr => ∃ k : Nat, k ≤ nx ∧ i = .int .i64 k ∧ OwnCs wr w.heap.size u (recN xs ys (j * nx + k)) ∧ Below w.heap.size w wr) (fun _ i _ => nx - (intOf i).toNat)
      case atStart => exact ⟨0, Nat.zero_le _, rfl, hO, hB⟩
      case round =>
        clear hO hB
        obtain ⟨k, hk, rfl, hO, hB⟩ := hrel
        obtain ⟨A6, c6, rfl⟩ := hO.form
        have hnx := HNX.out
        have hny := HNY.out
        rcases Nat.lt_or_ge k nx with hlk | hgk
        · obtain ⟨ad, rfl, hab, d1⟩ := (h.below hB).numAt (i := k) (by omega)
          have d2 : wr.cell? ⟨ad.block, ad.off + (k + 1), none⟩ = some (.int .i64 (nth xs (k + 1))) := by simpa [Addr.add] using (h.below hB).numAt' (i := k + 1) (by omega)
          obtain ⟨ad', rfl, hab', d3⟩ := (h'.below hB).numAt (i := j) (by omega)
          have d4 : wr.cell? ⟨ad'.block, ad'.off + (j + 1), none⟩ = some (.int .i64 (nth ys (j + 1))) := by simpa [Addr.add] using (h'.below hB).numAt' (i := j + 1) (by omega)
          have hin1 : in64 (nth xs k) ∧ in64 (nth xs (k + 1)) := ⟨asc_in HX.out (by omega), asc_in HX.out (by omega)⟩
          have hin2 : in64 (nth ys j) ∧ in64 (nth ys (j + 1)) := ⟨asc_in HY.out (by omega), asc_in HY.out (by omega)⟩
          have HST : Hid (recN xs ys (j * nx + (k + 1)) = recN xs ys (j * nx + k) ++ [(rect (nth xs k) (nth xs (k + 1)) (nth ys j) (nth ys (j + 1)), false)]) := by
            show _ = _
            have h1 := recN_step xs ys j k (by omega)
            rw [← hnx] at h1
            exact h1
          have hlen : (recN xs ys (j * nx + k)).length ≤ 64 := by
            rw [recN_len]
            have h1 : (j + 1) * nx ≤ ny * nx := Nat.mul_le_mul_right _ (by omega)
            rw [Nat.mul_comm ny nx, ← HN.out, Nat.add_mul, Nat.one_mul] at h1
            omega
          generalize recN xs ys (j * nx + k) = L at *
          generalize nth xs k = x0 at *
          generalize nth xs (k + 1) = x1 at *
          generalize nth ys j = y0 at *
          generalize nth ys (j + 1) = y1 at *
          have b1 : (k : Int) + 1 < xs.length := by omega
          have b2 : (j : Int) + 1 < ys.length := by omega
          have b3 : (k : Int) < xs.length := by omega
          have b4 : (j : Int) < ys.length := by omega
          have ww1 : IntKind.i64.wrap ((k : Int) + 1) = (k : Int) + 1 := IntWalk.i64_in _ (by omega)
          have ww2 : IntKind.i64.wrap ((j : Int) + 1) = (j : Int) + 1 := IntWalk.i64_in _ (by omega)
          have b5 : (0 : Int) ≤ (k : Int) + 1 := by omega
          have b6 : (0 : Int) ≤ (j : Int) + 1 := by omega
          have b7 : ((k : Int) + 1).toNat = k + 1 := by omega
          have b8 : ((j : Int) + 1).toNat = j + 1 := by omega
          clear hnx hny
          go_wp2_with fail
          go_region_held3 (fun W => W.cell? (ad.add k) = some (.int .i64 x0) ∧ W.cell? ⟨ad.block, ad.off + (k + 1), none⟩ = some (.int .i64 x1) ∧ W.cell? (ad'.add j) = some (.int .i64 y0) ∧ W.cell? ⟨ad'.block, ad'.off + (j + 1), none⟩ = some (.int .i64 y1))
            (first | exact ⟨d1, d2, d3, d4⟩)
            (first | fail)
          have hB3 := hB.drew
          have hO3 := hO.keep (Below.refl wr.heap.size wr).drew
          clear d1 d2 d3 d4 hO hB
          generalize wr.drew = w3 at *
          have hbA : Below w3.heap.size w3 ((w3.alloc (.cells #[.int .i64 x0, .int .i64 y0, .int .i64 x1, .int .i64 y0, .int .i64 x1, .int .i64 y1, .int .i64 x0, .int .i64 y1] 42)).alloc (.cells #[.slice (some ⟨w3.heap.size, 0, none⟩) 4 4, .bool false] 24)) := (below_alloc w3 _).alloc (by simp) _
          have hIC : IsC ((w3.alloc (.cells #[.int .i64 x0, .int .i64 y0, .int .i64 x1, .int .i64 y0, .int .i64 x1, .int .i64 y1, .int .i64 x0, .int .i64 y1] 42)).alloc (.cells #[.slice (some ⟨w3.heap.size, 0, none⟩) 4 4, .bool false] 24)) ((w3.alloc (.cells #[.int .i64 x0, .int .i64 y0, .int .i64 x1, .int .i64 y0, .int .i64 x1, .int .i64 y1, .int .i64 x0, .int .i64 y1] 42)).alloc (.cells #[.slice (some ⟨w3.heap.size, 0, none⟩) 4 4, .bool false] 24)).heap.size (.agg #[.slice (some ⟨w3.heap.size, 0, none⟩) 4 4, .bool false]) (rect x0 x1 y0 y1) false := rect_isC ((Bk.new _ _ _).alloc _) hin1 hin2
          have hB4 := hB3.trans (hbA.mono hB3.size)
          have hs4 : ((w3.alloc (.cells #[.int .i64 x0, .int .i64 y0, .int .i64 x1, .int .i64 y0, .int .i64 x1, .int .i64 y1, .int .i64 x0, .int .i64 y1] 42)).alloc (.cells #[.slice (some ⟨w3.heap.size, 0, none⟩) 4 4, .bool false] 24)).heap.size = w3.heap.size + 1 + 1 := by simp
          obtain ⟨S, hS1, hS2, hS3, hS4⟩ := hO3.keep hbA
          go_wp2_with (at_builtin; refine wpL_append_ni rfl (.tmp 61) (.tmp 76) 26 rfl w.heap.size 24 i0 zce 2 32 Tryd.underlying26 hi0 hz0 hz1 hz2 rfl (by omega) _ L.length (crow S) rfl hS2 hS3 zce_no ⟨w3.heap.size + 1, 0, none⟩ 1 1 [.slice (some ⟨w3.heap.size, 0, none⟩) 4 4, .bool false] rfl rfl (new_cells1 w3 _ _ _) (by intro u hu; simp at hu; rcases hu with rfl | rfl <;> rfl) (by intro u hu k0 i1; simp at hu; rcases hu with rfl | rfl <;> simp) (by omega) (by unfold maxLen; omega) (by omega) (by have := hB4.size; omega) ?_; intro v5 w5 hw1 hw2 hw3; have HO : Hid (OwnCs w5 w.heap.size v5 (L ++ [(rect x0 x1 y0 y1, false)])) := OwnCs.add hS1 hS3 hS4 hIC hw1 hw2 hw3; have hB5 : Below w.heap.size w w5 := below_app hB4 hw2 (by have := hB4.size; omega) hS2 (Nat.le_refl _); clear hw1 hw2 hw3)
          go_roundw
          case rel => exact ⟨k + 1, by omega, by go_num, by rw [HST.out]; exact HO.out, hB5⟩
          case measure => simp [intOf]; omega
        · have hkn : nx = k := by omega
          subst hkn
          have HO : Hid (OwnCs wr w.heap.size (.slice A6 (recN xs ys (j * nx + nx)).length c6) (recN xs ys ((j + 1) * nx))) := by rw [Nat.add_mul, Nat.one_mul]; exact hO
          clear hO hnx hny
          go_wp2
          go_roundw
          case rel => exact ⟨j + 1, by omega, by go_num, HO.out, hB⟩
          case measure => simp [intOf]; omega
    · have hjn : ny = j := by omega
      subst hjn
      have HI : Hid (IsCs wr wr.heap.size (.slice A5 (recN xs ys (ny * nx)).length c5) (recN xs ys N)) := by
        have e : ny * nx = N := by rw [Nat.mul_comm]; exact HN.out.symm
        have := hO.is
        rw [e] at this ⊢
        exact this
      clear hO
      go_wp2
      go_ret2
      exact ⟨hB, _, rfl, HI.out⟩
end Go.Proofs.YtblopapobmbboaaDoor
