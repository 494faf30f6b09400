/-
  Walks: package array: made.
-/
import Derived.Test.YtihcefiffblikaaDoorArrE
import Derived.Test.YtihcefiffblikaaDoorOwnI
import Derived.Test.YtihcefiffblikaaDoorRngH
namespace Go.Proofs.YtihcefiffblikaaDoor
open Go.RowKit Ix Ar
attribute [local go_sem] Oper.semAt_some

/-- 'make' of texts. -/
theorem make_strs (n : Nat) (x : Int) (hx : x = (n : Int)) (hn : n ≤ 4000000) (w : World) :
    (Instr.makeSlice 23 (.int .i64 x) (.int .i64 x)).run Tryd.prog w = .ok (.slice (some ⟨w.heap.size, 0, none⟩) n n) (w.alloc (.cells (strs (List.replicate n ⟨#[]⟩)).toArray 9)) := by
  subst hx
  obtain ⟨i0, hi0, hz0, hz1, hz2⟩ := info_parts Tryd.str_info
  have hr := run_make (P := Tryd.prog) w 23 9 i0 (.string ⟨#[]⟩) Tryd.underlying23 hi0 hz0 .i64 .i64 n n (by omega) (by omega) (by rw [hz2]; omega) (by omega)
  rw [hr, hz1]
  have e1 : madeCells (Value.cells (.string ⟨#[]⟩)) ((n : Int).toNat * 1) = (strs (List.replicate n ⟨#[]⟩)).toArray := by
    apply Array.ext'
    have : Value.cells (.string ⟨#[]⟩) = #[.string ⟨#[]⟩] := rfl
    rw [this, toList_madeCells_one]
    simp [strs]
  rw [e1]
  simp
/-- The texts so far. -/
def soFar (f : Nat → ByteArray) (N k : Nat) : List ByteArray := (List.range k).map f ++ List.replicate (N - k) ⟨#[]⟩
theorem soFar_next (f : Nat → ByteArray) {N k : Nat} (h : k < N) : (soFar f N k).set k (f k) = soFar f N (k + 1) := by
  unfold soFar
  rw [List.range_succ, List.map_append, List.append_assoc, show N - k = (N - (k + 1)) + 1 by omega, List.replicate_succ]
  exact set_mid _ _ _ _ _ (by simp)
theorem soFar_len (f : Nat → ByteArray) {N k : Nat} (h : k ≤ N) : (soFar f N k).length = N := by
  unfold soFar
  rw [List.length_append, List.length_map, List.length_range, List.length_replicate]; omega
theorem soFar_zero (f : Nat → ByteArray) (N : Nat) : soFar f N 0 = List.replicate N ⟨#[]⟩ := by unfold soFar; simp
theorem soFar_all (f : Nat → ByteArray) (N : Nat) : soFar f N N = (List.range N).map f := by unfold soFar; simp
/-- A cell that held something else is written anew. -/
theorem Rd.put_out {w : World} {B : Nat} {A : Option Addr} {xs : List Value} (h : Rd w B A xs) {p : Addr} {u : Value} (hc : w.cell? p = some u) (hu : u ∉ xs) (x : Value) : Rd (w.setCell p x) B A xs := fun hn => by
  obtain ⟨ad, e, hb, h2⟩ := h hn
  refine ⟨ad, e, hb, fun j y hy => ?_⟩
  rw [World.cell?_setCell_other w p _ x (fun e => ?_)]
  · exact h2 j y hy
  · have := h2 j y hy
    rw [← e, hc] at this
    injection this with this
    subst this
    exact hu (List.mem_of_getElem? hy)
theorem slice_out (l : List Int) (A : Option Addr) (n c : Nat) : Value.slice A n c ∉ zints l := by simp [zints]
theorem strs_at {l : List ByteArray} {i : Nat} (h : i < l.length) : (strs l).toArray[i]? = some (.string (l.getD i ⟨#[]⟩)) := by
  simp [strs, List.getD_eq_getElem?_getD, List.getElem?_eq_getElem h]
/-- What made keeps between two rounds. -/
structure MadeAt (w : World) (f : Nat → ByteArray) (N lo ob vb : Nat) (fv sv vv : Value) (A9 : Option Addr) (S : List Int) (k : Nat) (W : World) : Prop where
  below : Below w.heap.size w W
  clos : Bk W w.heap.size 56 #[fv]
  res : Bk W (w.heap.size + 1) 25 #[.slice none 0 0, .slice none 0 0]
  out : Bk W ob 25 #[sv, vv]
  vals : Bk W vb 9 (strs (soFar f N k)).toArray
  shape : Rd W lo A9 (zints S)
  size : lo ≤ W.heap.size
  lob : ob < lo ∧ vb < lo ∧ w.heap.size + 1 < lo
theorem MadeAt.grown {w : World} {f : Nat → ByteArray} {N lo ob vb : Nat} {fv sv vv : Value} {A9 : Option Addr} {S : List Int} {k : Nat} {W W' : World} (h : MadeAt w f N lo ob vb fv sv vv A9 S k W) {row : Option Nat} (hg : W.grownBy W' row) (hr : ∀ r, row = some r → lo ≤ r) : MadeAt w f N lo ob vb fv sv vv A9 S k W' := by
  obtain ⟨l1, l2, l3⟩ := h.lob
  have far : ∀ j : Nat, j < lo → some j ≠ row := fun j hj e => by have := hr j e.symm; omega
  have hz := h.below.size
  exact ⟨h.below.grown hg hz (fun r e => by have := hr r e; omega), h.clos.grown hg (far _ (by omega)), h.res.grown hg (far _ (by omega)), h.out.grown hg (far _ l1), h.vals.grown hg (far _ l2), h.shape.grown hg h.size hr, Nat.le_trans h.size hg.size, h.lob⟩
theorem MadeAt.next {w : World} {f : Nat → ByteArray} {N lo ob vb : Nat} {fv sv vv : Value} {A9 : Option Addr} {S : List Int} {k : Nat} {W W' : World} (h : MadeAt w f N lo ob vb fv sv vv A9 S k W) (hb : Below W.heap.size W W') : MadeAt w f N lo ob vb fv sv vv A9 S k W' :=
  h.grown (grown_of_below hb none) (fun r e => by cases e)
theorem Rd.own {W W' : World} {B : Nat} {A : Option Addr} {xs : List Value} (h : Rd W B A xs) {row : Option Nat} (hg : W.grownBy W' row) (hr : ∀ r, row = some r → ∃ o : Obj, W.heap[r]? = some o ∧ o.isCells = false) : Rd W' B A xs := fun hn => by
  obtain ⟨ad, e, hb, hc⟩ := h hn
  exact ⟨ad, e, hb, fun j u hu => cell_kept (hc j u hu) hg hr⟩
theorem IdxKeep.put {S : List Nat} {Bs n₀ : Nat} {A : Option Addr} {c X k : Nat} {W : World} (h : IdxKeep S Bs n₀ A c X k W) {l : Nat} {o : Obj} (o' : Obj) (hl : W.heap[l]? = some o) (ho : o.isCells = false) : IdxKeep S Bs n₀ A c X k (W.putObj l o') := by
  obtain ⟨h1, h2, h3⟩ := h
  have hg := grownBy_putObj' W l o'
  have hr : ∀ r, some l = some r → ∃ o : Obj, W.heap[r]? = some o ∧ o.isCells = false := fun r e => by cases e; exact ⟨o, hl, ho⟩
  refine ⟨h1.grown hg (fun e => ?_), cell_kept h2 hg hr, h3.own hg hr⟩
  cases e
  rw [show W.heap[X]? = _ from h1] at hl
  cases hl; cases ho

set_option maxRecDepth 100000 in
set_option maxHeartbeats 6400000 in
theorem made_any (S : List Int) (gf : FuncId) (caps : Array Value) (eg : ∀ args w, (callFunc gf args).run Tryd.prog w = .ok (.enter gf args) w) (f : Nat → ByteArray) (A : Option Addr) (c : Nat) (w : World) (hV : VS S) (hr : Rd w w.heap.size A (zints S))
    (hat : ∀ (k X : Nat) (W : World), Below w.heap.size w W → k < Ix.prod (S.map Int.toNat) → w.heap.size ≤ X → Bk W X 3 (ints .i64 (idx (S.map Int.toNat) k)).toArray →
      Calls Tryd.prog gf (#[.slice (some ⟨X, 0, none⟩) S.length S.length] ++ caps) W fun e W' => Below W.heap.size W W' ∧ e = .returned (.string (f k))) :
    Calls Tryd.prog 18 #[.slice A S.length c, .func (.func gf) #[] caps] w fun e w' => Below w.heap.size w w' ∧ ∃ v, e = .returned v ∧ IsA w' w'.heap.size v (S, (List.range (Ix.prod (S.map Int.toNat))).map f) := by
  have hz := hV.sz
  have hl4 := hV.1
  obtain ⟨N, hN⟩ : ∃ N, N = Ix.prod (S.map Int.toNat) := ⟨_, rfl⟩
  have hN2 : N ≤ 4096 := by rw [hN]; exact hV.2.2
  have HAT := Lib.hid hat
  have HV := Lib.hid hV
  have CC := Lib.hid (fun W (hW : Below w.heap.size w W) => cells_any (S.map Int.toNat) A c w.heap.size W hz (by rw [← hV.cells]; exact hr.below hW))
  rw [List.length_map, ← hN] at CC
  have CL := Lib.hid (fun W (hW : Below w.heap.size w W) => clonez_any A S.length c S W rfl (by omega) ((hr.below hW).more hW.size))
  have HMK := Lib.hid (make_strs N (N : Int) rfl (by omega))
  have HR := Lib.hid hr
  have HN := Lib.hid hN
  have HEG := Lib.hid eg
  clear hat hV hr hN eg
  refine (callsIn_wide (n := 5)).1 ?_
  refine callsIn_of_wp_marks Tryd.func18 rfl trivial ?_ rfl
  simp only [Tryd.ntmps18, List.size_toArray, List.length_cons, List.length_nil, Nat.reduceAdd, Nat.reduceSub, Array.replicate_succ, Array.replicate_zero, List.push_toArray, List.append_toArray, List.nil_append, List.cons_append]
  gi_wp2_with fail
  have hB1 := (below_alloc w (.cells #[.func (.func gf) #[] caps] 56)).alloc (by simp) (.cells #[.slice none 0 0, .slice none 0 0] 25)
  have k1 := (Bk.new w 56 #[Value.func (.func gf) #[] caps]).alloc (.cells #[.slice none 0 0, .slice none 0 0] 25)
  have k2 := Bk.new2 w (.cells #[.func (.func gf) #[] caps] 56) 25 #[Value.slice none 0 0, .slice none 0 0]
  refine ⟨trivial, (callsIn_wide.2 (CL.out _ hB1)).mono ?_⟩
  clear CL
  have hs1 : ((w.alloc (.cells #[.func (.func gf) #[] caps] 56)).alloc (.cells #[.slice none 0 0, .slice none 0 0] 25)).heap.size = w.heap.size + 2 := by simp
  generalize ((w.alloc (.cells #[.func (.func gf) #[] caps] 56)).alloc (.cells #[.slice none 0 0, .slice none 0 0] 25)) = w1 at *
  rintro e w2 ⟨hb2, v9, rfl, hown⟩
  have hI9 := IsI.of_own hown
  obtain ⟨A9, c9, rfl, hc9⟩ := hI9.form
  have hB2 := hB1.trans (hb2.mono hB1.size)
  replace k1 := k1.next' hb2
  replace k2 := k2.next' hb2
  have hs2 := hb2.size
  have HI9 := Lib.hid hI9
  clear hown hI9 hb2
  gi_wp2_with fail
  refine ⟨trivial, (callsIn_wide.2 (CC.out _ hB2)).mono ?_⟩
  rintro e w' ⟨rfl, rfl⟩
  clear CC
  have hmk := HMK.out
  gi_wp2_with fail
  have hB3 := (hB2.alloc hB2.size (.cells (strs (List.replicate N ⟨#[]⟩)).toArray 9)).alloc (by have := hB2.size; simp; omega) (.cells #[.slice A9 S.length c9, .slice (some ⟨w2.heap.size, 0, none⟩) N N] 25)
  have k4 := (Bk.new w2 9 (strs (List.replicate N ⟨#[]⟩)).toArray).alloc (.cells #[.slice A9 S.length c9, .slice (some ⟨w2.heap.size, 0, none⟩) N N] 25)
  have k5 := Bk.new2 w2 (.cells (strs (List.replicate N ⟨#[]⟩)).toArray 9) 25 #[Value.slice A9 S.length c9, .slice (some ⟨w2.heap.size, 0, none⟩) N N]
  replace k1 := (k1.alloc (.cells (strs (List.replicate N ⟨#[]⟩)).toArray 9)).alloc (.cells #[.slice A9 S.length c9, .slice (some ⟨w2.heap.size, 0, none⟩) N N] 25)
  replace k2 := (k2.alloc (.cells (strs (List.replicate N ⟨#[]⟩)).toArray 9)).alloc (.cells #[.slice A9 S.length c9, .slice (some ⟨w2.heap.size, 0, none⟩) N N] 25)
  have hI3 := (((HI9.out.rd).alloc (Nat.le_refl _) (.cells (strs (List.replicate N ⟨#[]⟩)).toArray 9)).alloc (by simp) (.cells #[.slice A9 S.length c9, .slice (some ⟨w2.heap.size, 0, none⟩) N N] 25))
  have hs3 : ((w2.alloc (.cells (strs (List.replicate N ⟨#[]⟩)).toArray 9)).alloc (.cells #[.slice A9 S.length c9, .slice (some ⟨w2.heap.size, 0, none⟩) N N] 25)).heap.size = w2.heap.size + 2 := by simp
  refine ⟨trivial, (callsIn_wide.2 (indexes_any A S.length c _)).mono ?_⟩
  clear HMK hmk
  generalize ((w2.alloc (.cells (strs (List.replicate N ⟨#[]⟩)).toArray 9)).alloc (.cells #[.slice A9 S.length c9, .slice (some ⟨w2.heap.size, 0, none⟩) N N] 25)) = w3 at *
  rintro e w4 ⟨rfl, rfl⟩
  have hs4 : (w3.alloc (.cells #[.slice A S.length c] 22)).heap.size = w2.heap.size + 3 := by simp [hs3]
  have hB4 := hB3.alloc (by omega) (.cells #[.slice A S.length c] 22)
  have kbx := Bk.new w3 22 #[Value.slice A S.length c]
  replace k1 := k1.alloc (.cells #[.slice A S.length c] 22)
  replace k2 := k2.alloc (.cells #[.slice A S.length c] 22)
  replace k4 := k4.alloc (.cells #[.slice A S.length c] 22)
  replace k5 := k5.alloc (.cells #[.slice A S.length c] 22)
  have hI4 := hI3.alloc (by omega) (.cells #[.slice A S.length c] 22)
  rw [hs3] at kbx ⊢
  clear hB3 hI3
  gi_wp2_with fail
  generalize w3.alloc (.cells #[.slice A S.length c] 22) = w4 at *
  have eI : idxArgs (S.map Int.toNat) = fun X k => #[.int .i64 (k : Int), .slice (some ⟨X, 0, none⟩) S.length S.length] := by funext X k; unfold idxArgs; rw [List.length_map]
  have hlw := hB1.size
  have G := indexes1_gives (S.map Int.toNat) A c (w2.heap.size + 2) w.heap.size 4 w4 (by omega) hz (by omega) hB4.size (by rw [List.length_map]; exact kbx.cell 0) (by rw [← HV.out.cells]; exact HR.out.below hB4)
  rw [← HN.out, eI] at G
  have M0 : MadeAt w f N w4.heap.size (w2.heap.size + 1) w2.heap.size (.func (.func gf) #[] caps) (.slice A9 S.length c9) (.slice (some ⟨w2.heap.size, 0, none⟩) N N) A9 S 0 w4 :=
    ⟨hB4, k1, k2, k5, by rw [soFar_zero]; exact k4, hI4.more (by omega), Nat.le_refl _, by omega, by omega, by omega⟩
  clear hB4 k1 k2 k5 k4 hI4 kbx eI HR HI9 hB1 hB2
  refine wpIn_range_idx (n := 5) rfl (by omega) (gf := 37) (lb := #[.pointer (some ⟨w2.heap.size + 2, 0, none⟩)]) rfl trivial (enters_of Tryd.func37 (by kernel_rfl) rfl) G (Below.refl _ _) (fun _ _ => rfl)
    (fun X k A l o o' _ h1 h2 h3 => h1.put o' h2 h3)
    (fun _ k W => MadeAt w f N w4.heap.size (w2.heap.size + 1) w2.heap.size (.func (.func gf) #[] caps) (.slice A9 S.length c9) (.slice (some ⟨w2.heap.size, 0, none⟩) N N) A9 S k W)
    (fun X k A B row hX h1 hg hr => h1.grown hg (fun r e => by rcases hr r e with rfl | ⟨h2, _⟩ <;> omega))
    (fun X r => (M0.next (below_alloc _ _)).next (below_alloc _ _))
    (fun X k => { tmps := #[.slice A S.length c, .func (.func gf) #[] caps, undef, .pointer (some ⟨w.heap.size, 0, none⟩), .pointer (some ⟨w.heap.size + 1, 0, none⟩), .pointer (some ⟨w2.heap.size + 1, 0, none⟩), .int .i64 (k : Int), .slice (some ⟨X, 0, none⟩) S.length S.length, .slice A S.length c,
      .slice A9 S.length c9, .slice A S.length c, .int .i64 (N : Int), .slice (some ⟨w2.heap.size, 0, none⟩) N N, .agg #[.slice A9 S.length c9, .slice (some ⟨w2.heap.size, 0, none⟩) N N], .slice A S.length c, .func (.func 37) #[] #[.pointer (some ⟨w2.heap.size + 2, 0, none⟩)],
      .int .i64 (k : Int), .slice (some ⟨X, 0, none⟩) S.length S.length, undef, undef, undef, undef, undef, undef, undef, undef], defers := [] }) ?assign ?body ?done
  case assign =>
    intro l X k W K hK
    gi_wp2
    exact hK
  case body =>
    rintro l X k W hl hX hM hKp hlt
    have eg := HEG.out
    have hsw := hM.below.size
    have CAT := Lib.hid (HAT.out k X W.drew hM.below.drew (by rw [← HN.out]; exact hlt) (by omega) hKp.1)
    obtain ⟨d0, d1⟩ := bkA hM.out
    have c0 : _ = some _ := hM.clos.cell 0
    refine wpIn_block ?_
    refine region_roundM 7 (by kernel_rfl) (by kernel_rfl) (fun ⟨_, _, h⟩ => h) (fun Y => (Y.cell? ⟨w2.heap.size + 1, 0, none⟩ = some (.slice A9 S.length c9) ∧ Y.cell? ⟨w2.heap.size + 1, 1, none⟩ = some (.slice (some ⟨w2.heap.size, 0, none⟩) N N)) ∧ Y.cell? ⟨w.heap.size, 0, none⟩ = some (.func (.func gf) #[] caps)) ⟨⟨d0, d1⟩, c0⟩ (fun hS0 => ?_)
    clear d0 d1 c0
    refine takeM (i := 0) (v := ?_) rfl (by kernel_rfl) (by decide) (by kernel_rfl) (by kernel_rfl) (by kernel_rfl) (fun _ _ _ h => h) (by rfl) (by assumption) ?_ ?_
    rotate_left
    · intro w hSw; (try dsimp only at hSw); go_simp <;> with_reducible rfl
    try simp only [Act.put, List.setIfInBounds_toArray, List.set_cons_zero, List.set_cons_succ]
    refine takeM (i := 1) (v := ?_) rfl (by kernel_rfl) (by decide) (by kernel_rfl) (by kernel_rfl) (by kernel_rfl) (fun _ _ _ h => h) (by rfl) (by assumption) ?_ ?_
    rotate_left
    · intro w hSw; (try dsimp only at hSw); go_simp <;> with_reducible rfl
    try simp only [Act.put, List.setIfInBounds_toArray, List.set_cons_zero, List.set_cons_succ]
    refine takeM (i := 2) (v := ?_) rfl (by kernel_rfl) (by decide) (by kernel_rfl) (by kernel_rfl) (by kernel_rfl) (fun _ _ _ h => h) (by rfl) (by assumption) ?_ ?_
    rotate_left
    · intro w hSw; (try dsimp only at hSw); go_simp <;> with_reducible rfl
    try simp only [Act.put, List.setIfInBounds_toArray, List.set_cons_zero, List.set_cons_succ]
    refine takeM (i := 3) (v := ?_) rfl (by kernel_rfl) (by decide) (by kernel_rfl) (by kernel_rfl) (by kernel_rfl) (fun _ _ _ h => h) (by rfl) (by assumption) ?_ ?_
    rotate_left
    · intro w hSw; (try dsimp only at hSw); go_simp <;> with_reducible rfl
    try simp only [Act.put, List.setIfInBounds_toArray, List.set_cons_zero, List.set_cons_succ]
    refine takeM (i := 4) (v := ?_) rfl (by kernel_rfl) (by decide) (by kernel_rfl) (by kernel_rfl) (by kernel_rfl) (fun _ _ _ h => h) (by rfl) (by assumption) ?_ ?_
    rotate_left
    · intro w hSw; (try dsimp only at hSw); go_simp <;> with_reducible rfl
    try simp only [Act.put, List.setIfInBounds_toArray, List.set_cons_zero, List.set_cons_succ]
    clear hS0
    refine stepM (i := 5) rfl (by kernel_rfl) (fun K0 hK0 => ?_)
    go_simp
    refine CAT.out.mono ?_
    rintro e w5 ⟨hb5, rfl⟩
    have hM5 := (hM.grown (grown_drewN W 1 none) (fun r e => by cases e)).next hb5
    have hS5 := And.intro (bkA hM5.out) (show w5.cell? ⟨w.heap.size, 0, none⟩ = some (.func (.func gf) #[] caps) from hM5.clos.cell 0)
    dsimp only
    refine hK0.out _ _ (fun _ => hS5) (fun _ => ?_)
    clear hK0 K0 CAT
    try simp only [Act.put, List.setIfInBounds_toArray, List.set_cons_zero, List.set_cons_succ]
    have ik0 : (0 : Int) ≤ (k : Int) := by omega
    have ik1 : (k : Int) < (N : Int) := by omega
    refine takeM (i := 6) (v := ?_) rfl (by kernel_rfl) (by decide) (by kernel_rfl) (by kernel_rfl) (by kernel_rfl) (fun _ _ _ h => h) (by rfl) (by assumption) ?_ ?_
    rotate_left
    · intro w hSw; (try dsimp only at hSw); go_simp <;> with_reducible rfl
    try simp only [Act.put, List.setIfInBounds_toArray, List.set_cons_zero, List.set_cons_succ]
    have hv5 := hM5.vals.cell k
    rw [strs_at (by rw [soFar_len f (by omega)]; exact hlt)] at hv5
    have hf5 := hM5.vals.frozen k
    refine stepM (i := 7) rfl (by kernel_rfl) (fun K0 hK0 => ?_)
    go_simp
    refine hK0.out _ _ (fun h => absurd rfl h) (fun _ => ?_)
    clear hK0 K0
    try simp only [Act.put, List.setIfInBounds_toArray, List.set_cons_zero, List.set_cons_succ]
    refine doneM (by kernel_rfl) ?_ _
    have hg6 := grown_setCell w5 ⟨w2.heap.size, k, none⟩ (.string (f k))
    have k6 := hM5.vals.put k (.string (f k))
    rw [strs_set, soFar_next f hlt] at k6
    obtain ⟨l1, l2, l3⟩ := hM5.lob
    refine ⟨((KeepsOthers.drew W).from _).trans ((KeepsFrom.of_grownBy (grown_of_below hb5 none) (fun j e => by cases e)).trans ((KeepsOthers.setCell w5 _ _).from _)), ?_, ?_⟩
    · exact ⟨hM5.below.setCell (p := ⟨w2.heap.size, k, none⟩) (by show w.heap.size ≤ w2.heap.size; omega) _, hM5.clos.far (by show w.heap.size ≠ w2.heap.size; omega) _, hM5.res.far (by show w.heap.size + 1 ≠ w2.heap.size; omega) _, hM5.out.far (by show w2.heap.size + 1 ≠ w2.heap.size; omega) _, k6,
        hM5.shape.put_out hv5 (by simp [zints]) _, by have := hM5.size; simpa [World.setCell] using this, hM5.lob⟩
    · obtain ⟨q1, q2, q3⟩ := hKp
      have q1' := q1.drew.next' hb5
      refine ⟨q1'.far (by show X ≠ w2.heap.size; omega) _, ?_, ?_⟩
      · exact (World.cell?_setCell_other w5 ⟨w2.heap.size, k, none⟩ ⟨w2.heap.size + 2, 0, none⟩ (.string (f k)) (fun e => by injection e with e1; omega)).trans ((hb5.cell (p := ⟨w2.heap.size + 2, 0, none⟩) (by show w2.heap.size + 2 < W.heap.size; have := hM.size; omega)).trans q2)
      · exact (((show Rd W.drew _ _ _ from q3).below (hb5.mono hsw))).setCell (p := ⟨w2.heap.size, k, none⟩) (by show w.heap.size ≤ w2.heap.size; omega) _
  case done =>
    rintro D X W hD hX hM hK
    obtain ⟨d0, d1⟩ := bkA hM.out
    obtain ⟨r0, r1⟩ := bkA hM.res
    have f0 := hM.res.frozen 0
    have f1 := hM.res.frozen 1
    gi_wp2
    have k7 := (hM.res.put 0 (.slice A9 S.length c9)).put 1 (.slice (some ⟨w2.heap.size, 0, none⟩) N N)
    have M7 : Below w.heap.size w ((W.setCell ⟨w.heap.size + 1, 0, none⟩ (.slice A9 S.length c9)).setCell ⟨w.heap.size + 1, 1, none⟩ (.slice (some ⟨w2.heap.size, 0, none⟩) N N)) := (hM.below.setCell (p := ⟨w.heap.size + 1, 0, none⟩) (by simp) _).setCell (p := ⟨w.heap.size + 1, 1, none⟩) (by simp) _
    have v7 := (hM.vals.far (p := ⟨w.heap.size + 1, 0, none⟩) (by show w2.heap.size ≠ w.heap.size + 1; omega) (.slice A9 S.length c9)).far (p := ⟨w.heap.size + 1, 1, none⟩) (by show w2.heap.size ≠ w.heap.size + 1; omega) (.slice (some ⟨w2.heap.size, 0, none⟩) N N)
    have K7 := ((KeepsOthers.setCell W ⟨w.heap.size + 1, 0, none⟩ (.slice A9 S.length c9)).trans (KeepsOthers.setCell _ ⟨w.heap.size + 1, 1, none⟩ (.slice (some ⟨w2.heap.size, 0, none⟩) N N))).same D _ hK rfl
    have s7 := (hM.shape.put_out r0 (slice_out _ _ _ _) (.slice A9 S.length c9)).put_out (((World.cell?_setCell_other W ⟨w.heap.size + 1, 0, none⟩ ⟨w.heap.size + 1, 1, none⟩ (.slice A9 S.length c9) (fun e => by cases e)).trans r1)) (slice_out _ _ _ _) (.slice (some ⟨w2.heap.size, 0, none⟩) N N)
    have z7 : w4.heap.size ≤ ((W.setCell ⟨w.heap.size + 1, 0, none⟩ (.slice A9 S.length c9)).setCell ⟨w.heap.size + 1, 1, none⟩ (.slice (some ⟨w2.heap.size, 0, none⟩) N N)).heap.size := by have := hM.size; simpa [World.setCell] using this
    generalize ((W.setCell ⟨w.heap.size + 1, 0, none⟩ (.slice A9 S.length c9)).setCell ⟨w.heap.size + 1, 1, none⟩ (.slice (some ⟨w2.heap.size, 0, none⟩) N N)) = W7 at *
    refine ⟨by simp, .inl ⟨_, _, rfl, run_takeDeferred K7, ?_⟩⟩
    have hg8 := grownBy_putObj' W7 D (.deferred none)
    have hr8 : ∀ r, some D = some r → ∃ o : Obj, W7.heap[r]? = some o ∧ o.isCells = false := fun r e => by cases e; exact ⟨_, K7, rfl⟩
    have far : ∀ j : Nat, j < w4.heap.size → some j ≠ some D := fun j hj e => by cases e; omega
    have k8 : Bk _ _ _ #[.slice A9 S.length c9, .slice (some ⟨w2.heap.size, 0, none⟩) N N] := (show Bk W7 (w.heap.size + 1) 25 #[.slice A9 S.length c9, .slice (some ⟨w2.heap.size, 0, none⟩) N N] from by simpa using k7).grown hg8 (far _ (by omega))
    have v8 := v7.grown hg8 (far _ (by omega))
    have s8 := s7.own hg8 hr8
    have B8 := M7.grown hg8 (by have := M7.size; omega) (fun r e => by cases e; omega)
    obtain ⟨e0, e1⟩ := bkA k8
    rw [soFar_all] at v8
    have hlast : IsA (W7.putObj D (.deferred none)) (W7.putObj D (.deferred none)).heap.size (.agg #[.slice A9 S.length c9, .slice (some ⟨w2.heap.size, 0, none⟩) N N]) (S, (List.range (Ix.prod (S.map Int.toNat))).map f) := by
      refine ⟨_, _, rfl, ⟨A9, c9, rfl, hc9, s8.more (by rw [World.putObj_size]; exact z7)⟩, ?_⟩
      rw [← HN.out]
      have := IsT.of_bk v8
      rw [List.length_map, List.length_range] at this
      exact this
    generalize W7.putObj D (.deferred none) = W8 at *
    refine ⟨.agg #[.slice A9 S.length c9, .slice (some ⟨w2.heap.size, 0, none⟩) N N], by simp [results, Tryd.results18, go_sem, e0, e1], ?_⟩
    exact ⟨B8, _, rfl, hlast⟩
end Go.Proofs.YtihcefiffblikaaDoor
