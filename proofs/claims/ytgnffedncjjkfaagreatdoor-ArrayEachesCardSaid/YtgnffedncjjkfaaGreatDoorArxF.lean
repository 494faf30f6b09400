/-
  Walks: package array: made.
  Walks: package array: Slice.
-/
import Derived.Test.YtgnffedncjjkfaaGreatDoorArxA
import Derived.Test.YtgnffedncjjkfaaGreatDoorOwnI
import Derived.Test.YtgnffedncjjkfaaGreatDoorRngH
import Derived.Lib.SmallJoins
import Derived.OneCell
namespace Go.Proofs.YtgnffedncjjkfaaGreatDoor
open Go.RowKit Ix Ar
attribute [local go_sem] Oper.semAt_some

/-- 'make' of texts. -/
theorem make_strs (n : Nat) (x : Int) (hx : x = (n : Int)) (hn : n ≤ 4000000) (w : World) :
    (Instr.makeSlice 23 (.int .i64 x) (.int .i64 x)).run Tryz.prog w = .ok (.slice (some ⟨w.heap.size, 0, none⟩) n n) (w.alloc (.cells (strs (List.replicate n ⟨#[]⟩)).toArray 9)) := by
  subst hx
  obtain ⟨i0, hi0, hz0, hz1, hz2⟩ := info_parts Tryz.str_info
  have hr := run_make (P := Tryz.prog) w 23 9 i0 (.string ⟨#[]⟩) Tryz.underlying23 hi0 hz0 .i64 .i64 n n (by omega) (by omega) (by rw [hz2]; omega) (by omega)
  rw [hr, hz1]
  have e1 : madeCells (Value.cells (.string ⟨#[]⟩)) ((n : Int).toNat * 1) = (strs (List.replicate n ⟨#[]⟩)).toArray := by
    apply Array.ext'
    have : Value.cells (.string ⟨#[]⟩) = #[.string ⟨#[]⟩] := rfl
    rw [this, toList_madeCells_one]
    simp [strs]
  rw [e1]
  simp
/-- The texts so far. -/
def soFar (f : Nat → ByteArray) (N k : Nat) : List ByteArray := (List.range k).map f ++ List.replicate (N - k) ⟨#[]⟩
theorem soFar_next (f : Nat → ByteArray) {N k : Nat} (h : k < N) : (soFar f N k).set k (f k) = soFar f N (k + 1) := by
  unfold soFar
  rw [List.range_succ, List.map_append, List.append_assoc, show N - k = (N - (k + 1)) + 1 by omega, List.replicate_succ]
  exact set_mid _ _ _ _ _ (by simp)
theorem soFar_len (f : Nat → ByteArray) {N k : Nat} (h : k ≤ N) : (soFar f N k).length = N := by
  unfold soFar
  rw [List.length_append, List.length_map, List.length_range, List.length_replicate]; omega
theorem soFar_zero (f : Nat → ByteArray) (N : Nat) : soFar f N 0 = List.replicate N ⟨#[]⟩ := by unfold soFar; simp
theorem soFar_all (f : Nat → ByteArray) (N : Nat) : soFar f N N = (List.range N).map f := by unfold soFar; simp
/-- A cell that held something else is written anew. -/
theorem Rd.put_out {w : World} {B : Nat} {A : Option Addr} {xs : List Value} (h : Rd w B A xs) {p : Addr} {u : Value} (hc : w.cell? p = some u) (hu : u ∉ xs) (x : Value) : Rd (w.setCell p x) B A xs := fun hn => by
  obtain ⟨ad, e, hb, h2⟩ := h hn
  refine ⟨ad, e, hb, fun j y hy => ?_⟩
  rw [World.cell?_setCell_other w p _ x (fun e => ?_)]
  · exact h2 j y hy
  · have := h2 j y hy
    rw [← e, hc] at this
    injection this with this
    subst this
    exact hu (List.mem_of_getElem? hy)
theorem slice_out (l : List Int) (A : Option Addr) (n c : Nat) : Value.slice A n c ∉ zints l := by simp [zints]
theorem strs_at {l : List ByteArray} {i : Nat} (h : i < l.length) : (strs l).toArray[i]? = some (.string (l.getD i ⟨#[]⟩)) := by
  simp [strs, List.getD_eq_getElem?_getD, List.getElem?_eq_getElem h]
/-- What made keeps between two rounds. -/
structure MadeAt (w : World) (f : Nat → ByteArray) (N lo ob vb : Nat) (fv sv vv : Value) (A9 : Option Addr) (S : List Int) (k : Nat) (W : World) : Prop where
  below : Below w.heap.size w W
  clos : Bk W w.heap.size 87 #[fv]
  res : Bk W (w.heap.size + 1) 25 #[.slice none 0 0, .slice none 0 0]
  out : Bk W ob 25 #[sv, vv]
  vals : Bk W vb 9 (strs (soFar f N k)).toArray
  shape : Rd W lo A9 (zints S)
  own : W.ownsRow (w.heap.size + 2) 3 1 sv S.length (zints S)
  ownlt : ∀ g, sv.ownBlock = some g → g < vb
  size : lo ≤ W.heap.size
  lob : ob < lo ∧ vb < lo ∧ w.heap.size + 1 < lo
theorem MadeAt.grown {w : World} {f : Nat → ByteArray} {N lo ob vb : Nat} {fv sv vv : Value} {A9 : Option Addr} {S : List Int} {k : Nat} {W W' : World} (h : MadeAt w f N lo ob vb fv sv vv A9 S k W) {row : Option Nat} (hg : W.grownBy W' row) (hr : ∀ r, row = some r → lo ≤ r) : MadeAt w f N lo ob vb fv sv vv A9 S k W' := by
  obtain ⟨l1, l2, l3⟩ := h.lob
  have far : ∀ j : Nat, j < lo → some j ≠ row := fun j hj e => by have := hr j e.symm; omega
  have hz := h.below.size
  exact ⟨h.below.grown hg hz (fun r e => by have := hr r e; omega), h.clos.grown hg (far _ (by omega)), h.res.grown hg (far _ (by omega)), h.out.grown hg (far _ l1), h.vals.grown hg (far _ l2), h.shape.grown hg h.size hr, h.own.kept hg (by
    cases e : sv.ownBlock with
    | none => exact .inl rfl
    | some g => exact .inr (fun e' => by have := h.ownlt g e; have := hr g e'.symm; omega)), h.ownlt, Nat.le_trans h.size hg.size, h.lob⟩
theorem MadeAt.next {w : World} {f : Nat → ByteArray} {N lo ob vb : Nat} {fv sv vv : Value} {A9 : Option Addr} {S : List Int} {k : Nat} {W W' : World} (h : MadeAt w f N lo ob vb fv sv vv A9 S k W) (hb : Below W.heap.size W W') : MadeAt w f N lo ob vb fv sv vv A9 S k W' :=
  h.grown (grown_of_below hb none) (fun r e => by cases e)
theorem Rd.own {W W' : World} {B : Nat} {A : Option Addr} {xs : List Value} (h : Rd W B A xs) {row : Option Nat} (hg : W.grownBy W' row) (hr : ∀ r, row = some r → ∃ o : Obj, W.heap[r]? = some o ∧ o.isCells = false) : Rd W' B A xs := fun hn => by
  obtain ⟨ad, e, hb, hc⟩ := h hn
  exact ⟨ad, e, hb, fun j u hu => cell_kept (hc j u hu) hg hr⟩
theorem IdxKeep.put {S : List Nat} {Bs n₀ : Nat} {A : Option Addr} {c X k : Nat} {W : World} (h : IdxKeep S Bs n₀ A c X k W) {l : Nat} {o : Obj} (o' : Obj) (hl : W.heap[l]? = some o) (ho : o.isCells = false) : IdxKeep S Bs n₀ A c X k (W.putObj l o') := by
  obtain ⟨h1, h2, h3⟩ := h
  have hg := grownBy_putObj' W l o'
  have hr : ∀ r, some l = some r → ∃ o : Obj, W.heap[r]? = some o ∧ o.isCells = false := fun r e => by cases e; exact ⟨o, hl, ho⟩
  refine ⟨h1.grown hg (fun e => ?_), cell_kept h2 hg hr, h3.own hg hr⟩
  cases e
  rw [show W.heap[X]? = _ from h1] at hl
  cases hl; cases ho

/-- An array whose shape is its own, apart from the elements. -/
def ShOwn (B : Nat) (W : World) (v : Value) (S : List Int) (V : List ByteArray) : Prop := ∃ A c g N, v = .agg #[.slice A S.length c, .slice (some ⟨g, 0, none⟩) N N] ∧ N = V.length ∧ Bk W g 9 (strs V).toArray ∧ B ≤ g ∧ W.ownsRow B 3 1 (.slice A S.length c) S.length (zints S) ∧ (Value.slice A S.length c).ownBlock ≠ some g
set_option maxRecDepth 100000 in
set_option maxHeartbeats 6400000 in
theorem made_own (S : List Int) (gf : FuncId) (caps : Array Value) (eg : ∀ args w, (callFunc gf args).run Tryz.prog w = .ok (.enter gf args) w) (f : Nat → ByteArray) (A : Option Addr) (c : Nat) (w : World) (hV : VS S) (hr : Rd w w.heap.size A (zints S))
    (hat : ∀ (k X : Nat) (W : World), Below w.heap.size w W → k < Ix.prod (S.map Int.toNat) → w.heap.size ≤ X → Bk W X 3 (ints .i64 (idx (S.map Int.toNat) k)).toArray →
      Calls Tryz.prog gf (#[.slice (some ⟨X, 0, none⟩) S.length S.length] ++ caps) W fun e W' => Below W.heap.size W W' ∧ e = .returned (.string (f k))) :
    Calls Tryz.prog 61 #[.slice A S.length c, .func (.func gf) #[] caps] w fun e w' => Below w.heap.size w w' ∧ ∃ v, e = .returned v ∧ IsA w' w'.heap.size v (S, (List.range (Ix.prod (S.map Int.toNat))).map f) ∧ ShOwn w.heap.size w' v S ((List.range (Ix.prod (S.map Int.toNat))).map f) := by
  have hz := hV.sz
  have hl4 := hV.1
  obtain ⟨N, hN⟩ : ∃ N, N = Ix.prod (S.map Int.toNat) := ⟨_, rfl⟩
  have hN2 : N ≤ 4096 := by rw [hN]; exact hV.2.2
  have HAT := Lib.hid hat
  have HV := Lib.hid hV
  have CC := Lib.hid (fun W (hW : Below w.heap.size w W) => cells_any (S.map Int.toNat) A c w.heap.size W hz (by rw [← hV.cells]; exact hr.below hW))
  rw [List.length_map, ← hN] at CC
  have CL := Lib.hid (fun W (hW : Below w.heap.size w W) => clonez_any A S.length c S W rfl (by omega) ((hr.below hW).more hW.size))
  have HMK := Lib.hid (make_strs N (N : Int) rfl (by omega))
  have HR := Lib.hid hr
  have HN := Lib.hid hN
  have HEG := Lib.hid eg
  clear hat hV hr hN eg
  refine (callsIn_wide (n := 5)).1 ?_
  refine callsIn_of_wp_marks Tryz.func61 rfl trivial ?_ rfl
  simp only [Tryz.ntmps61, List.size_toArray, List.length_cons, List.length_nil, Nat.reduceAdd, Nat.reduceSub, Array.replicate_succ, Array.replicate_zero, List.push_toArray, List.append_toArray, List.nil_append, List.cons_append]
  gi_wp2_with fail
  have hB1 := (below_alloc w (.cells #[.func (.func gf) #[] caps] 87)).alloc (by simp) (.cells #[.slice none 0 0, .slice none 0 0] 25)
  have k1 := (Bk.new w 87 #[Value.func (.func gf) #[] caps]).alloc (.cells #[.slice none 0 0, .slice none 0 0] 25)
  have k2 := Bk.new2 w (.cells #[.func (.func gf) #[] caps] 87) 25 #[Value.slice none 0 0, .slice none 0 0]
  refine ⟨trivial, (callsIn_wide.2 (CL.out _ hB1)).mono ?_⟩
  clear CL
  have hs1 : ((w.alloc (.cells #[.func (.func gf) #[] caps] 87)).alloc (.cells #[.slice none 0 0, .slice none 0 0] 25)).heap.size = w.heap.size + 2 := by simp
  generalize ((w.alloc (.cells #[.func (.func gf) #[] caps] 87)).alloc (.cells #[.slice none 0 0, .slice none 0 0] 25)) = w1 at *
  rintro e w2 ⟨hb2, v9, rfl, hown⟩
  have hI9 := IsI.of_own hown
  obtain ⟨A9, c9, rfl, hc9⟩ := hI9.form
  have hB2 := hB1.trans (hb2.mono hB1.size)
  replace k1 := k1.next' hb2
  replace k2 := k2.next' hb2
  have hs2 := hb2.size
  have HI9 := Lib.hid hI9
  have HOW := Lib.hid hown
  rw [hs1] at HOW
  clear hown hI9 hb2
  gi_wp2_with fail
  refine ⟨trivial, (callsIn_wide.2 (CC.out _ hB2)).mono ?_⟩
  rintro e w' ⟨rfl, rfl⟩
  clear CC
  have hmk := HMK.out
  gi_wp2_with fail
  have hB3 := (hB2.alloc hB2.size (.cells (strs (List.replicate N ⟨#[]⟩)).toArray 9)).alloc (by have := hB2.size; simp; omega) (.cells #[.slice A9 S.length c9, .slice (some ⟨w2.heap.size, 0, none⟩) N N] 25)
  have k4 := (Bk.new w2 9 (strs (List.replicate N ⟨#[]⟩)).toArray).alloc (.cells #[.slice A9 S.length c9, .slice (some ⟨w2.heap.size, 0, none⟩) N N] 25)
  have k5 := Bk.new2 w2 (.cells (strs (List.replicate N ⟨#[]⟩)).toArray 9) 25 #[Value.slice A9 S.length c9, .slice (some ⟨w2.heap.size, 0, none⟩) N N]
  replace k1 := (k1.alloc (.cells (strs (List.replicate N ⟨#[]⟩)).toArray 9)).alloc (.cells #[.slice A9 S.length c9, .slice (some ⟨w2.heap.size, 0, none⟩) N N] 25)
  replace k2 := (k2.alloc (.cells (strs (List.replicate N ⟨#[]⟩)).toArray 9)).alloc (.cells #[.slice A9 S.length c9, .slice (some ⟨w2.heap.size, 0, none⟩) N N] 25)
  have hI3 := (((HI9.out.rd).alloc (Nat.le_refl _) (.cells (strs (List.replicate N ⟨#[]⟩)).toArray 9)).alloc (by simp) (.cells #[.slice A9 S.length c9, .slice (some ⟨w2.heap.size, 0, none⟩) N N] 25))
  have HOW3 := Lib.hid ((HOW.out.alloc (.cells (strs (List.replicate N ⟨#[]⟩)).toArray 9)).alloc (.cells #[.slice A9 S.length c9, .slice (some ⟨w2.heap.size, 0, none⟩) N N] 25))
  have hs3 : ((w2.alloc (.cells (strs (List.replicate N ⟨#[]⟩)).toArray 9)).alloc (.cells #[.slice A9 S.length c9, .slice (some ⟨w2.heap.size, 0, none⟩) N N] 25)).heap.size = w2.heap.size + 2 := by simp
  refine ⟨trivial, (callsIn_wide.2 (indexes_any A S.length c _)).mono ?_⟩
  clear HMK hmk
  generalize ((w2.alloc (.cells (strs (List.replicate N ⟨#[]⟩)).toArray 9)).alloc (.cells #[.slice A9 S.length c9, .slice (some ⟨w2.heap.size, 0, none⟩) N N] 25)) = w3 at *
  rintro e w4 ⟨rfl, rfl⟩
  have HOW4 := Lib.hid (HOW3.out.alloc (.cells #[.slice A S.length c] 22))
  have hs4 : (w3.alloc (.cells #[.slice A S.length c] 22)).heap.size = w2.heap.size + 3 := by simp [hs3]
  have hB4 := hB3.alloc (by omega) (.cells #[.slice A S.length c] 22)
  have kbx := Bk.new w3 22 #[Value.slice A S.length c]
  replace k1 := k1.alloc (.cells #[.slice A S.length c] 22)
  replace k2 := k2.alloc (.cells #[.slice A S.length c] 22)
  replace k4 := k4.alloc (.cells #[.slice A S.length c] 22)
  replace k5 := k5.alloc (.cells #[.slice A S.length c] 22)
  have hI4 := hI3.alloc (by omega) (.cells #[.slice A S.length c] 22)
  rw [hs3] at kbx ⊢
  clear hB3 hI3
  gi_wp2_with fail
  generalize w3.alloc (.cells #[.slice A S.length c] 22) = w4 at *
  have eI : idxArgs (S.map Int.toNat) = fun X k => #[.int .i64 (k : Int), .slice (some ⟨X, 0, none⟩) S.length S.length] := by funext X k; unfold idxArgs; rw [List.length_map]
  have hlw := hB1.size
  have G := indexes1_gives (S.map Int.toNat) A c (w2.heap.size + 2) w.heap.size 4 w4 (by omega) hz (by omega) hB4.size (by rw [List.length_map]; exact kbx.cell 0) (by rw [← HV.out.cells]; exact HR.out.below hB4)
  rw [← HN.out, eI] at G
  have HO4 : Hid (w4.ownsRow (w.heap.size + 2) 3 1 (.slice A9 S.length c9) S.length (zints S)) := HOW4.out
  have M0 : MadeAt w f N w4.heap.size (w2.heap.size + 1) w2.heap.size (.func (.func gf) #[] caps) (.slice A9 S.length c9) (.slice (some ⟨w2.heap.size, 0, none⟩) N N) A9 S 0 w4 :=
    ⟨hB4, k1, k2, k5, by rw [soFar_zero]; exact k4, hI4.more (by omega), HO4.out, fun g hg => (HOW.out.lt g hg).2, Nat.le_refl _, by omega, by omega, by omega⟩
  clear hB4 k1 k2 k5 k4 hI4 kbx eI HR HI9 hB1 hB2
  refine wpIn_range_idx (n := 5) rfl (by omega) (gf := 117) (lb := #[.pointer (some ⟨w2.heap.size + 2, 0, none⟩)]) rfl trivial (enters_of Tryz.func117 (by kernel_rfl) rfl) G (Below.refl _ _) (fun _ _ => rfl)
    (fun X k A l o o' _ h1 h2 h3 => h1.put o' h2 h3)
    (fun _ k W => MadeAt w f N w4.heap.size (w2.heap.size + 1) w2.heap.size (.func (.func gf) #[] caps) (.slice A9 S.length c9) (.slice (some ⟨w2.heap.size, 0, none⟩) N N) A9 S k W)
    (fun X k A B row hX h1 hg hr => h1.grown hg (fun r e => by rcases hr r e with rfl | ⟨h2, _⟩ <;> omega))
    (fun X r => (M0.next (below_alloc _ _)).next (below_alloc _ _))
    (fun X k => { tmps := #[.slice A S.length c, .func (.func gf) #[] caps, undef, .pointer (some ⟨w.heap.size, 0, none⟩), .pointer (some ⟨w.heap.size + 1, 0, none⟩), .pointer (some ⟨w2.heap.size + 1, 0, none⟩), .int .i64 (k : Int), .slice (some ⟨X, 0, none⟩) S.length S.length, .slice A S.length c,
      .slice A9 S.length c9, .slice A S.length c, .int .i64 (N : Int), .slice (some ⟨w2.heap.size, 0, none⟩) N N, .agg #[.slice A9 S.length c9, .slice (some ⟨w2.heap.size, 0, none⟩) N N], .slice A S.length c, .func (.func 117) #[] #[.pointer (some ⟨w2.heap.size + 2, 0, none⟩)],
      .int .i64 (k : Int), .slice (some ⟨X, 0, none⟩) S.length S.length, undef, undef, undef, undef, undef, undef, undef, undef], defers := [] }) ?assign ?body ?done
  case assign =>
    intro l X k W K hK
    gi_wp2
    exact hK
  case body =>
    rintro l X k W hl hX hM hKp hlt
    have eg := HEG.out
    have hsw := hM.below.size
    have CAT := Lib.hid (HAT.out k X W.drew hM.below.drew (by rw [← HN.out]; exact hlt) (by omega) hKp.1)
    obtain ⟨d0, d1⟩ := bkA hM.out
    have c0 : _ = some _ := hM.clos.cell 0
    refine wpIn_block ?_
    refine region_roundM 7 (by kernel_rfl) (by kernel_rfl) (fun ⟨_, _, h⟩ => h) (fun Y => (Y.cell? ⟨w2.heap.size + 1, 0, none⟩ = some (.slice A9 S.length c9) ∧ Y.cell? ⟨w2.heap.size + 1, 1, none⟩ = some (.slice (some ⟨w2.heap.size, 0, none⟩) N N)) ∧ Y.cell? ⟨w.heap.size, 0, none⟩ = some (.func (.func gf) #[] caps)) ⟨⟨d0, d1⟩, c0⟩ (fun hS0 => ?_)
    clear d0 d1 c0
    refine takeM (i := 0) (v := ?_) rfl (by kernel_rfl) (by decide) (by kernel_rfl) (by kernel_rfl) (by kernel_rfl) (fun _ _ _ h => h) (by rfl) (by assumption) ?_ ?_
    rotate_left
    · intro w hSw; (try dsimp only at hSw); go_simp <;> with_reducible rfl
    try simp only [Act.put, List.setIfInBounds_toArray, List.set_cons_zero, List.set_cons_succ]
    refine takeM (i := 1) (v := ?_) rfl (by kernel_rfl) (by decide) (by kernel_rfl) (by kernel_rfl) (by kernel_rfl) (fun _ _ _ h => h) (by rfl) (by assumption) ?_ ?_
    rotate_left
    · intro w hSw; (try dsimp only at hSw); go_simp <;> with_reducible rfl
    try simp only [Act.put, List.setIfInBounds_toArray, List.set_cons_zero, List.set_cons_succ]
    refine takeM (i := 2) (v := ?_) rfl (by kernel_rfl) (by decide) (by kernel_rfl) (by kernel_rfl) (by kernel_rfl) (fun _ _ _ h => h) (by rfl) (by assumption) ?_ ?_
    rotate_left
    · intro w hSw; (try dsimp only at hSw); go_simp <;> with_reducible rfl
    try simp only [Act.put, List.setIfInBounds_toArray, List.set_cons_zero, List.set_cons_succ]
    refine takeM (i := 3) (v := ?_) rfl (by kernel_rfl) (by decide) (by kernel_rfl) (by kernel_rfl) (by kernel_rfl) (fun _ _ _ h => h) (by rfl) (by assumption) ?_ ?_
    rotate_left
    · intro w hSw; (try dsimp only at hSw); go_simp <;> with_reducible rfl
    try simp only [Act.put, List.setIfInBounds_toArray, List.set_cons_zero, List.set_cons_succ]
    refine takeM (i := 4) (v := ?_) rfl (by kernel_rfl) (by decide) (by kernel_rfl) (by kernel_rfl) (by kernel_rfl) (fun _ _ _ h => h) (by rfl) (by assumption) ?_ ?_
    rotate_left
    · intro w hSw; (try dsimp only at hSw); go_simp <;> with_reducible rfl
    try simp only [Act.put, List.setIfInBounds_toArray, List.set_cons_zero, List.set_cons_succ]
    clear hS0
    refine stepM (i := 5) rfl (by kernel_rfl) (fun K0 hK0 => ?_)
    go_simp
    refine CAT.out.mono ?_
    rintro e w5 ⟨hb5, rfl⟩
    have hM5 := (hM.grown (grown_drewN W 1 none) (fun r e => by cases e)).next hb5
    have hS5 := And.intro (bkA hM5.out) (show w5.cell? ⟨w.heap.size, 0, none⟩ = some (.func (.func gf) #[] caps) from hM5.clos.cell 0)
    dsimp only
    refine hK0.out _ _ (fun _ => hS5) (fun _ => ?_)
    clear hK0 K0 CAT
    try simp only [Act.put, List.setIfInBounds_toArray, List.set_cons_zero, List.set_cons_succ]
    have ik0 : (0 : Int) ≤ (k : Int) := by omega
    have ik1 : (k : Int) < (N : Int) := by omega
    refine takeM (i := 6) (v := ?_) rfl (by kernel_rfl) (by decide) (by kernel_rfl) (by kernel_rfl) (by kernel_rfl) (fun _ _ _ h => h) (by rfl) (by assumption) ?_ ?_
    rotate_left
    · intro w hSw; (try dsimp only at hSw); go_simp <;> with_reducible rfl
    try simp only [Act.put, List.setIfInBounds_toArray, List.set_cons_zero, List.set_cons_succ]
    have hv5 := hM5.vals.cell k
    rw [strs_at (by rw [soFar_len f (by omega)]; exact hlt)] at hv5
    have hf5 := hM5.vals.frozen k
    refine stepM (i := 7) rfl (by kernel_rfl) (fun K0 hK0 => ?_)
    go_simp
    refine hK0.out _ _ (fun h => absurd rfl h) (fun _ => ?_)
    clear hK0 K0
    try simp only [Act.put, List.setIfInBounds_toArray, List.set_cons_zero, List.set_cons_succ]
    refine doneM (by kernel_rfl) ?_ _
    have hg6 := grown_setCell w5 ⟨w2.heap.size, k, none⟩ (.string (f k))
    have k6 := hM5.vals.put k (.string (f k))
    rw [strs_set, soFar_next f hlt] at k6
    obtain ⟨l1, l2, l3⟩ := hM5.lob
    refine ⟨((KeepsOthers.drew W).from _).trans ((KeepsFrom.of_grownBy (grown_of_below hb5 none) (fun j e => by cases e)).trans ((KeepsOthers.setCell w5 _ _).from _)), ?_, ?_⟩
    · exact ⟨hM5.below.setCell (p := ⟨w2.heap.size, k, none⟩) (by show w.heap.size ≤ w2.heap.size; omega) _, hM5.clos.far (by show w.heap.size ≠ w2.heap.size; omega) _, hM5.res.far (by show w.heap.size + 1 ≠ w2.heap.size; omega) _, hM5.out.far (by show w2.heap.size + 1 ≠ w2.heap.size; omega) _, k6,
        hM5.shape.put_out hv5 (by simp [zints]) _, ownsRow_setCell_other hM5.own (fun e => by have := hM5.ownlt _ e; exact absurd this (Nat.lt_irrefl _)) _, hM5.ownlt, by have := hM5.size; simpa [World.setCell] using this, hM5.lob⟩
    · obtain ⟨q1, q2, q3⟩ := hKp
      have q1' := q1.drew.next' hb5
      refine ⟨q1'.far (by show X ≠ w2.heap.size; omega) _, ?_, ?_⟩
      · exact (World.cell?_setCell_other w5 ⟨w2.heap.size, k, none⟩ ⟨w2.heap.size + 2, 0, none⟩ (.string (f k)) (fun e => by injection e with e1; omega)).trans ((hb5.cell (p := ⟨w2.heap.size + 2, 0, none⟩) (by show w2.heap.size + 2 < W.heap.size; have := hM.size; omega)).trans q2)
      · exact (((show Rd W.drew _ _ _ from q3).below (hb5.mono hsw))).setCell (p := ⟨w2.heap.size, k, none⟩) (by show w.heap.size ≤ w2.heap.size; omega) _
  case done =>
    rintro D X W hD hX hM hK
    obtain ⟨d0, d1⟩ := bkA hM.out
    obtain ⟨r0, r1⟩ := bkA hM.res
    have f0 := hM.res.frozen 0
    have f1 := hM.res.frozen 1
    gi_wp2
    have k7 := (hM.res.put 0 (.slice A9 S.length c9)).put 1 (.slice (some ⟨w2.heap.size, 0, none⟩) N N)
    have M7 : Below w.heap.size w ((W.setCell ⟨w.heap.size + 1, 0, none⟩ (.slice A9 S.length c9)).setCell ⟨w.heap.size + 1, 1, none⟩ (.slice (some ⟨w2.heap.size, 0, none⟩) N N)) := (hM.below.setCell (p := ⟨w.heap.size + 1, 0, none⟩) (by simp) _).setCell (p := ⟨w.heap.size + 1, 1, none⟩) (by simp) _
    have v7 := (hM.vals.far (p := ⟨w.heap.size + 1, 0, none⟩) (by show w2.heap.size ≠ w.heap.size + 1; omega) (.slice A9 S.length c9)).far (p := ⟨w.heap.size + 1, 1, none⟩) (by show w2.heap.size ≠ w.heap.size + 1; omega) (.slice (some ⟨w2.heap.size, 0, none⟩) N N)
    have K7 := ((KeepsOthers.setCell W ⟨w.heap.size + 1, 0, none⟩ (.slice A9 S.length c9)).trans (KeepsOthers.setCell _ ⟨w.heap.size + 1, 1, none⟩ (.slice (some ⟨w2.heap.size, 0, none⟩) N N))).same D _ hK rfl
    have s7 := (hM.shape.put_out r0 (slice_out _ _ _ _) (.slice A9 S.length c9)).put_out (((World.cell?_setCell_other W ⟨w.heap.size + 1, 0, none⟩ ⟨w.heap.size + 1, 1, none⟩ (.slice A9 S.length c9) (fun e => by cases e)).trans r1)) (slice_out _ _ _ _) (.slice (some ⟨w2.heap.size, 0, none⟩) N N)
    have o7 := ownsRow_setCell_below (ownsRow_setCell_below hM.own (a := ⟨w.heap.size + 1, 0, none⟩) (by show w.heap.size + 1 < w.heap.size + 2; omega) (.slice A9 S.length c9)) (a := ⟨w.heap.size + 1, 1, none⟩) (by show w.heap.size + 1 < w.heap.size + 2; omega) (.slice (some ⟨w2.heap.size, 0, none⟩) N N)
    have ol7 := hM.ownlt
    have z7 : w4.heap.size ≤ ((W.setCell ⟨w.heap.size + 1, 0, none⟩ (.slice A9 S.length c9)).setCell ⟨w.heap.size + 1, 1, none⟩ (.slice (some ⟨w2.heap.size, 0, none⟩) N N)).heap.size := by have := hM.size; simpa [World.setCell] using this
    generalize ((W.setCell ⟨w.heap.size + 1, 0, none⟩ (.slice A9 S.length c9)).setCell ⟨w.heap.size + 1, 1, none⟩ (.slice (some ⟨w2.heap.size, 0, none⟩) N N)) = W7 at *
    refine ⟨by simp, .inl ⟨_, _, rfl, run_takeDeferred K7, ?_⟩⟩
    have hg8 := grownBy_putObj' W7 D (.deferred none)
    have hr8 : ∀ r, some D = some r → ∃ o : Obj, W7.heap[r]? = some o ∧ o.isCells = false := fun r e => by cases e; exact ⟨_, K7, rfl⟩
    have far : ∀ j : Nat, j < w4.heap.size → some j ≠ some D := fun j hj e => by cases e; omega
    have k8 : Bk _ _ _ #[.slice A9 S.length c9, .slice (some ⟨w2.heap.size, 0, none⟩) N N] := (show Bk W7 (w.heap.size + 1) 25 #[.slice A9 S.length c9, .slice (some ⟨w2.heap.size, 0, none⟩) N N] from by simpa using k7).grown hg8 (far _ (by omega))
    have v8 := v7.grown hg8 (far _ (by omega))
    have s8 := s7.own hg8 hr8
    have o8 := o7.kept hg8 (by
      cases e : (Value.slice A9 S.length c9).ownBlock with
      | none => exact .inl rfl
      | some g => exact .inr (fun e' => by have := ol7 g e; injection e' with e'; omega))
    have B8 := M7.grown hg8 (by have := M7.size; omega) (fun r e => by cases e; omega)
    obtain ⟨e0, e1⟩ := bkA k8
    rw [soFar_all] at v8
    have hlast : IsA (W7.putObj D (.deferred none)) (W7.putObj D (.deferred none)).heap.size (.agg #[.slice A9 S.length c9, .slice (some ⟨w2.heap.size, 0, none⟩) N N]) (S, (List.range (Ix.prod (S.map Int.toNat))).map f) := by
      refine ⟨_, _, rfl, ⟨A9, c9, rfl, hc9, s8.more (by rw [World.putObj_size]; exact z7)⟩, ?_⟩
      rw [← HN.out]
      have := IsT.of_bk v8
      rw [List.length_map, List.length_range] at this
      exact this
    generalize W7.putObj D (.deferred none) = W8 at *
    refine ⟨.agg #[.slice A9 S.length c9, .slice (some ⟨w2.heap.size, 0, none⟩) N N], by simp [results, Tryz.results61, go_sem, e0, e1], ?_⟩
    exact ⟨B8, _, rfl, hlast, A9, c9, w2.heap.size, N, rfl, by rw [List.length_map, List.length_range]; exact HN.out, by rw [← HN.out]; exact v8, by omega, Go.Joins.ownsRow_le o8 (by omega), fun e => absurd (ol7 _ e) (Nat.lt_irrefl _)⟩
theorem made_any (S : List Int) (gf : FuncId) (caps : Array Value) (eg : ∀ args w, (callFunc gf args).run Tryz.prog w = .ok (.enter gf args) w) (f : Nat → ByteArray) (A : Option Addr) (c : Nat) (w : World) (hV : VS S) (hr : Rd w w.heap.size A (zints S))
    (hat : ∀ (k X : Nat) (W : World), Below w.heap.size w W → k < Ix.prod (S.map Int.toNat) → w.heap.size ≤ X → Bk W X 3 (ints .i64 (idx (S.map Int.toNat) k)).toArray →
      Calls Tryz.prog gf (#[.slice (some ⟨X, 0, none⟩) S.length S.length] ++ caps) W fun e W' => Below W.heap.size W W' ∧ e = .returned (.string (f k))) :
    Calls Tryz.prog 61 #[.slice A S.length c, .func (.func gf) #[] caps] w fun e w' => Below w.heap.size w w' ∧ ∃ v, e = .returned v ∧ IsA w' w'.heap.size v (S, (List.range (Ix.prod (S.map Int.toNat))).map f) := by
  exact (made_own S gf caps eg f A c w hV hr hat).mono fun e w' ⟨h1, v, h2, h3, _⟩ => ⟨h1, v, h2, h3⟩
end Go.Proofs.YtgnffedncjjkfaaGreatDoor

namespace Go.Proofs.YtgnffedncjjkfaaGreatDoor
open Go.RowKit Ix Ar

theorem cntI_nat (C : List Cut) : (cntI C).map Int.toNat = cnt C := by unfold cntI cnt; rw [List.map_map]; rfl
theorem prod_mono : ∀ (S T : List Nat), S.length = T.length → (∀ j, S.getD j 0 ≤ T.getD j 0) → Ix.prod S ≤ Ix.prod T
  | [], [], _, _ => Nat.le_refl _
  | [], _ :: _, h, _ => by simp at h
  | _ :: _, [], h, _ => by simp at h
  | s :: S, t :: T, h, k => Nat.mul_le_mul (by simpa using k 0) (prod_mono S T (by simpa using h) (fun j => by simpa using k (j + 1)))
theorem fit_VS {S : List Int} {C : List Cut} (hS : VS S) (h : Fit S C) : VS (cntI C) := by
  have hl := fit_len h
  have each : ∀ j, j < C.length → 0 ≤ (C.getD j (0, 0, 0)).2.1 ∧ (C.getD j (0, 0, 0)).2.1 ≤ S.getD j 0 := fun j hj => by
    obtain ⟨h1, h2, h3, h4, h5⟩ := ((fit_iff _ _).1 h).2 j (by omega)
    refine ⟨h2, ?_⟩
    rcases Int.lt_or_le 0 (C.getD j (0, 0, 0)).2.1 with h6 | h6
    · obtain ⟨h7, h8⟩ := h5 h6
      have := Int.ediv_le_self (a := S.getD j 0 - 1 - (C.getD j (0, 0, 0)).1) (C.getD j (0, 0, 0)).2.2 (by omega)
      omega
    · omega
  have hin : ∀ j, j < C.length → S.getD j 0 ≤ 1024 := fun j hj => by
    rw [List.getD_eq_getElem?_getD, List.getElem?_eq_getElem (by omega)]
    exact (hS.2.1 _ (List.getElem_mem _)).2
  refine ⟨by rw [cntI_len, hl]; exact hS.1, fun s hs => ?_, ?_⟩
  · obtain ⟨j, hj⟩ := List.getElem?_of_mem hs
    have hj2 : j < C.length := by have := (List.getElem?_eq_some_iff.1 hj).1; rwa [cntI_len] at this
    have e : s = (C.getD j (0, 0, 0)).2.1 := by
      unfold cntI at hj
      rw [List.getElem?_map, List.getElem?_eq_getElem hj2] at hj
      rw [List.getD_eq_getElem?_getD, List.getElem?_eq_getElem hj2]
      simpa using hj.symm
    have := each j hj2
    have := hin j hj2
    omega
  · rw [cntI_nat]
    refine Nat.le_trans (prod_mono _ (S.map Int.toNat) (by unfold cnt; rw [List.length_map, List.length_map, hl]) (fun j => ?_)) hS.2.2
    rcases Nat.lt_or_ge j C.length with hj | hj
    · rw [cnt_at hj]
      have e : (S.map Int.toNat).getD j 0 = (S.getD j 0).toNat := by
        rw [List.getD_eq_getElem?_getD, List.getD_eq_getElem?_getD, List.getElem?_map]
        cases S[j]? <;> rfl
      rw [e]
      have := each j hj
      omega
    · rw [List.getD_eq_getElem?_getD, List.getElem?_eq_none (by unfold cnt; rw [List.length_map]; exact hj)]
      exact Nat.zero_le _
/-- What is said of a slab of an array: the array, and the error. -/
noncomputable def sliceR (a : Arr) (C : List Cut) : Arr × Int :=
  open Classical in if VA a then (if Fit a.1 C then ((cntI C, cutOut (a.1.map Int.toNat) C a.2 ⟨#[]⟩), 0) else (([], []), 61)) else (([], []), 60)

set_option maxRecDepth 100000 in
set_option maxHeartbeats 3200000 in
theorem slice1_any (S : List Int) (V : List ByteArray) (C : List Cut) (ab sb fb g X k B : Nat) (A A' : Option Addr) (cA c' : Nat) (w : World) (hV : VS S) (hl : V.length = Ix.prod (S.map Int.toNat)) (hF : Fit S C) (hC : ∀ x ∈ C, In64 x) (hk : k < Ix.prod (cnt C))
    (h1 : w.cell? ⟨ab, 1, none⟩ = some (.slice A' V.length c')) (h2 : w.cell? ⟨sb, 0, none⟩ = some (.slice A C.length cA)) (h3 : w.cell? ⟨fb, 0, none⟩ = some (.slice (some ⟨g, 0, none⟩) S.length S.length))
    (hr : Rd w B A (krow C)) (hr' : Rd w B A' (strs V)) (hg : Rd w B (some ⟨g, 0, none⟩) (ints .i64 (strides (S.map Int.toNat)))) (hX : Bk w X 3 (ints .i64 (idx (cnt C) k)).toArray) (hB : B ≤ w.heap.size) (hab : ab < w.heap.size ∧ sb < w.heap.size ∧ fb < w.heap.size) :
    Calls Tryz.prog 63 #[.slice (some ⟨X, 0, none⟩) C.length C.length, .pointer (some ⟨ab, 0, none⟩), .pointer (some ⟨sb, 0, none⟩), .pointer (some ⟨fb, 0, none⟩)] w fun e w' => Below w.heap.size w w' ∧ e = .returned (.string (V.getD (place (S.map Int.toNat) (thr C (idx (cnt C) k))) ⟨#[]⟩)) := by
  have hlC := fit_len hF
  have hli : (idx (cnt C) k).length = C.length := by rw [idx_len]; unfold cnt; rw [List.length_map]
  have hin := idx_inside (cnt C) k hk
  have hti := thr_inside hF hin
  have hpl := place_lt _ _ hti
  have htl : (thr C (idx (cnt C) k)).length = S.length := by rw [thr_len hli, hlC]
  have hrX : Rd w w.heap.size (some ⟨X, 0, none⟩) (ints .i64 (idx (cnt C) k)) := by simpa using hX.rd
  have WI := Lib.hid (fun (W : World) (hW : Below w.heap.size w W) => within_any C S (idx (cnt C) k) A (some ⟨X, 0, none⟩) cA C.length W ((hr.below (hW.mono hB)).more (Nat.le_trans hB hW.size)) ((hrX.below hW).more hW.size) hF hV.2.1 hin (by rw [hlC]; exact hV.1) hC)
  rw [hli] at WI
  have hdot := dot_eq (S.map Int.toNat) (thr C (idx (cnt C) k)) (by rw [htl, List.length_map])
  have hp4 := hV.2.2
  have PL := Lib.hid (fun (W : World) (gw : Nat) (h4 : Bk W gw 3 (ints .i64 (thr C (idx (cnt C) k))).toArray) (h5 : Rd W B (some ⟨g, 0, none⟩) (ints .i64 (strides (S.map Int.toNat)))) =>
    place_any (thr C (idx (cnt C) k)) (strides (S.map Int.toNat)) (some ⟨gw, 0, none⟩) (some ⟨g, 0, none⟩) C.length S.length W.heap.size B W (by rw [htl, strides_len, List.length_map]) (by rw [htl]; exact hV.1) (by rw [hdot]; omega) (by simpa using h4.rd) h5)
  rw [hdot, htl, strides_len, List.length_map, ← hlC] at PL
  obtain ⟨m, hm⟩ : ∃ m, m = place (S.map Int.toNat) (thr C (idx (cnt C) k)) := ⟨_, rfl⟩
  rw [← hm] at PL hpl ⊢
  have hmV : m < V.length := by rw [hl]; exact hpl
  obtain ⟨ad, rfl, hadb, hcv⟩ := hr'.str hmV
  have hgv : V.getD m ⟨#[]⟩ = V[m] := by rw [List.getD_eq_getElem?_getD, List.getElem?_eq_getElem hmV]; rfl
  rw [hgv]
  generalize V[m] = x at *
  have i1 : (0 : Int) ≤ (m : Int) := by omega
  have i2 : (m : Int) < (V.length : Int) := by omega
  have HG := Lib.hid (fun (W : World) (hW : Below w.heap.size w W) => hg.below (hW.mono hB))
  have hlV : V.length ≤ 4096 := by omega
  rw [← hlC] at h3
  clear hl hlC hli hin hti htl hrX hdot hm hF hC hk hr hr' hg hgv hV hpl
  obtain ⟨a1, a2, a3⟩ := hab
  go_enter Tryz.func63, Tryz.ntmps63
  go_wp2_with fail
  refine wp_region_held_drew (S := fun Y => (Y.cell? ⟨ab, 1, none⟩ = some (.slice (some ad) V.length c') ∧ Y.cell? ⟨sb, 0, none⟩ = some (.slice A C.length cA) ∧ Y.cell? ⟨fb, 0, none⟩ = some (.slice (some ⟨g, 0, none⟩) C.length C.length) ∧ Y.cell? (ad.add m) = some (.string x)) ∧ Below w.heap.size w Y) (by kernel_rfl) ⟨⟨h1, h2, h3, hcv⟩, (Below.refl w.heap.size w).drew⟩ (fun hS => ?_)
  refine takeA (i := 0) (v := ?_) rfl (by kernel_rfl) (by kernel_rfl) (by kernel_rfl) (fun _ _ _ h => h) (by rfl) (by assumption) ?_ ?_
  rotate_left
  · intro w hSw; (try dsimp only at hSw); go_simp <;> with_reducible rfl
  try simp only [Act.put, List.setIfInBounds_toArray, List.set_cons_zero, List.set_cons_succ]
  refine takeA (i := 1) (v := ?_) rfl (by kernel_rfl) (by kernel_rfl) (by kernel_rfl) (fun _ _ _ h => h) (by rfl) (by assumption) ?_ ?_
  rotate_left
  · intro w hSw; (try dsimp only at hSw); go_simp <;> with_reducible rfl
  try simp only [Act.put, List.setIfInBounds_toArray, List.set_cons_zero, List.set_cons_succ]
  refine takeA (i := 2) (v := ?_) rfl (by kernel_rfl) (by kernel_rfl) (by kernel_rfl) (fun _ _ _ h => h) (by rfl) (by assumption) ?_ ?_
  rotate_left
  · intro w hSw; (try dsimp only at hSw); go_simp <;> with_reducible rfl
  try simp only [Act.put, List.setIfInBounds_toArray, List.set_cons_zero, List.set_cons_succ]
  refine takeA (i := 3) (v := ?_) rfl (by kernel_rfl) (by kernel_rfl) (by kernel_rfl) (fun _ _ _ h => h) (by rfl) (by assumption) ?_ ?_
  rotate_left
  · intro w hSw; (try dsimp only at hSw); go_simp <;> with_reducible rfl
  try simp only [Act.put, List.setIfInBounds_toArray, List.set_cons_zero, List.set_cons_succ]
  refine takeA (i := 5) (v := ?_) rfl (by kernel_rfl) (by kernel_rfl) (by kernel_rfl) (fun _ _ _ h => h) (by rfl) (by assumption) ?_ ?_
  rotate_left
  · intro w hSw; (try dsimp only at hSw); go_simp <;> with_reducible rfl
  try simp only [Act.put, List.setIfInBounds_toArray, List.set_cons_zero, List.set_cons_succ]
  refine stepA (i := 4) rfl (by kernel_rfl) (fun K0 hK0 => ?_)
  go_simp
  refine (WI.out _ hS.2).mono ?_
  rintro e w1 ⟨hb1, rfl, hw1⟩
  dsimp only
  have c1 := (hb1.mono hS.2.size)
  have f1 := hS.1
  refine hK0.out _ _ ⟨⟨(c1.cell (p := ⟨ab, 1, none⟩) a1).trans f1.1, (c1.cell (p := ⟨sb, 0, none⟩) a2).trans f1.2.1, (c1.cell (p := ⟨fb, 0, none⟩) a3).trans f1.2.2.1, (c1.cell (p := ad.add m) (by rw [addr_block]; show ad.block < w.heap.size; omega)).trans f1.2.2.2⟩, hS.2.trans c1⟩ (fun hS1 => ?_)
  clear hK0 K0 hS f1 c1
  try simp only [Act.put, List.setIfInBounds_toArray, List.set_cons_zero, List.set_cons_succ]

  refine stepA (i := 6) rfl (by kernel_rfl) (fun K0 hK0 => ?_)
  go_simp

  refine (PL.out _ _ hw1 (HG.out _ hS1.2)).mono ?_
  rintro e w' ⟨rfl, rfl⟩
  dsimp only
  refine hK0.out _ _ hS1 (fun hS => ?_)
  clear hK0 K0 hS1
  try simp only [Act.put, List.setIfInBounds_toArray, List.set_cons_zero, List.set_cons_succ]
  refine takeA (i := 7) (v := ?_) rfl (by kernel_rfl) (by kernel_rfl) (by kernel_rfl) (fun _ _ _ h => h) (by rfl) (by assumption) ?_ ?_
  rotate_left
  · intro w hSw; (try dsimp only at hSw); go_simp <;> with_reducible rfl
  try simp only [Act.put, List.setIfInBounds_toArray, List.set_cons_zero, List.set_cons_succ]
  refine takeA (i := 8) (v := ?_) rfl (by kernel_rfl) (by kernel_rfl) (by kernel_rfl) (fun _ _ _ h => h) (by rfl) (by assumption) ?_ ?_
  rotate_left
  · intro w hSw; (try dsimp only at hSw); go_simp <;> with_reducible rfl
  try simp only [Act.put, List.setIfInBounds_toArray, List.set_cons_zero, List.set_cons_succ]
  refine takeA (i := 9) (v := ?_) rfl (by kernel_rfl) (by kernel_rfl) (by kernel_rfl) (fun _ _ _ h => h) (by rfl) (by assumption) ?_ ?_
  rotate_left
  · intro w hSw; (try dsimp only at hSw); go_simp <;> with_reducible rfl
  try simp only [Act.put, List.setIfInBounds_toArray, List.set_cons_zero, List.set_cons_succ]
  refine wpAnyH_done (by kernel_rfl) ?_ _
  go_wp2
  go_ret
  exact ⟨hS.2, rfl⟩

theorem sliceR_shape {a : Arr} {C : List Cut} (h : ¬ VA a) : sliceR a C = (([], []), 60) := by unfold sliceR; rw [if_neg h]
theorem sliceR_slab {a : Arr} {C : List Cut} (h : VA a) (k : ¬ Fit a.1 C) : sliceR a C = (([], []), 61) := by unfold sliceR; rw [if_pos h, if_neg k]
theorem sliceR_ok {a : Arr} {C : List Cut} (h : VA a) (k : Fit a.1 C) : sliceR a C = ((cntI C, cutOut (a.1.map Int.toNat) C a.2 ⟨#[]⟩), 0) := by unfold sliceR; rw [if_pos h, if_pos k]
theorem slice_out_s (l : List ByteArray) (A : Option Addr) (n c : Nat) : Value.slice A n c ∉ strs l := by simp [strs]
theorem IsA.put_out {w : World} {B : Nat} {v : Value} {a : Arr} (h : IsA w B v a) {p : Addr} {A : Option Addr} {n c : Nat} (hc : w.cell? p = some (.slice A n c)) (x : Value) : IsA (w.setCell p x) B v a := by
  obtain ⟨s, t, e, ⟨A1, c1, e1, l1, r1⟩, ⟨A2, c2, e2, l2, r2⟩⟩ := h
  exact ⟨s, t, e, ⟨A1, c1, e1, l1, r1.put_out hc (slice_out _ _ _ _) x⟩, ⟨A2, c2, e2, l2, r2.put_out hc (slice_out_s _ _ _ _) x⟩⟩
/-- Both cells of an array's box are written. -/
theorem IsA.put2 {w : World} {B : Nat} {v : Value} {a : Arr} (h : IsA w B v a) {g : Nat} {A A' : Option Addr} {n c n' c' : Nat} (h0 : w.cell? ⟨g, 0, none⟩ = some (.slice A n c)) (h1 : w.cell? ⟨g, 1, none⟩ = some (.slice A' n' c')) (x y : Value) : IsA ((w.setCell ⟨g, 0, none⟩ x).setCell ⟨g, 1, none⟩ y) B v a :=
  (h.put_out h0 x).put_out ((World.cell?_setCell_other w ⟨g, 0, none⟩ ⟨g, 1, none⟩ x (fun e => by cases e)).trans h1) y
/-- The three boxes of Slice. -/
structure SlB (w : World) (sv vv kv : Value) (W : World) : Prop where
  below : Below w.heap.size w W
  arr : Bk W w.heap.size 25 #[sv, vv]
  slab : Bk W (w.heap.size + 1) 26 #[kv]
  res : Bk W (w.heap.size + 2) 25 #[.slice none 0 0, .slice none 0 0]
theorem SlB.next {w W W' : World} {sv vv kv : Value} (h : SlB w sv vv kv W) (hb : Below W.heap.size W W') : SlB w sv vv kv W' :=
  ⟨h.below.trans (hb.mono h.below.size), h.arr.next' hb, h.slab.next' hb, h.res.next' hb⟩
theorem SlB.start (w : World) (sv vv kv : Value) : SlB w sv vv kv (((w.alloc (.cells #[sv, vv] 25)).alloc (.cells #[kv] 26)).alloc (.cells #[.slice none 0 0, .slice none 0 0] 25)) :=
  ⟨((below_alloc w _).alloc (by simp) _).alloc (by simp; omega) _, ((Bk.new w _ _).alloc _).alloc _, (Bk.new2 w _ _ _).alloc _, by simpa using Bk.new ((w.alloc (.cells #[sv, vv] 25)).alloc (.cells #[kv] 26)) 25 #[Value.slice none 0 0, .slice none 0 0]⟩

set_option maxRecDepth 100000 in
set_option maxHeartbeats 6400000 in
theorem slice_any (a : Arr) (C : List Cut) (va vk : Value) (w : World) (ha : IsA w w.heap.size va a) (hk : IsK w w.heap.size vk C) (hi : InA a) (hC : ∀ x ∈ C, In64 x) (hL : C.length ≤ maxLen) (he : Env w) :
    Calls Tryz.prog 17 #[va, vk] w fun e w' => Below w.heap.size w w' ∧ ∃ v, e = .returned (.tuple #[v, .int .i64 (sliceR a C).2]) ∧ IsA w' w'.heap.size v (sliceR a C).1 := by
  obtain ⟨A, c, A', c', rfl, hc, hc'⟩ := ha.form
  obtain ⟨Ak, ck, rfl, hck⟩ := hk.form
  have hha := ha
  obtain ⟨hS, hT⟩ := ha.parts
  obtain ⟨S, V⟩ := a
  simp only at hS hT hc hc'
  obtain ⟨qv, hqv⟩ : ∃ b : Bool, b = true ↔ VA (S, V) := by classical exact ⟨decide _, decide_eq_true_iff⟩
  obtain ⟨qf, hqf⟩ : ∃ b : Bool, b = true ↔ Fit S C := by classical exact ⟨decide _, decide_eq_true_iff⟩
  have VV := Lib.hid (fun W (hW : Below w.heap.size w W) => valid_any (S, V) (.agg #[.slice A S.length c, .slice A' V.length c']) W (hha.next hW) hi (he.next hW) qv hqv)
  have HA := Lib.hid hha
  have HKr := Lib.hid hk
  have B0 := SlB.start w (.slice A S.length c) (.slice A' V.length c') (.slice Ak C.length ck)
  have i1 := hi.shape
  cases hv : qv
  · have hna : ¬ VA (S, V) := fun h => by rw [hqv.2 h] at hv; cases hv
    rw [sliceR_shape hna]
    subst hv
    clear hqv hqf hna ha hha hk hS hT hi
    go_enter Tryz.func17, Tryz.ntmps17
    go_wp2_with fail
    generalize (((w.alloc (.cells #[.slice A S.length c, .slice A' V.length c'] 25)).alloc (.cells #[.slice Ak C.length ck] 26)).alloc (.cells #[.slice none 0 0, .slice none 0 0] 25)) = W0 at *
    refine (VV.out W0 B0.below).mono ?_
    rintro e w1 ⟨hb1, rfl⟩
    have B1 := B0.next hb1
    obtain ⟨d0, d1⟩ := bkA B1.res
    have f0 := B1.res.frozen 0
    have f1 := B1.res.frozen 1
    go_wp2
    refine bodyPost_ret (v := .tuple #[.agg #[.slice none 0 0, .slice none 0 0], .int .i64 60]) (by simp [results, Tryz.results17, go_sem, d0, d1]) rfl ?_
    exact ⟨(B1.below.setCell (p := ⟨w.heap.size + 2, 0, none⟩) (by simp) _).setCell (p := ⟨w.heap.size + 2, 1, none⟩) (by simp) _, _, rfl, IsA.zero _ _⟩
  · have hva := hqv.1 hv
    subst hv
    have hVS : VS S := hva.1
    have hl : V.length = Ix.prod (S.map Int.toNat) := hva.2.1
    have FF := Lib.hid (fun W (hW : Below w.heap.size w W) => fits_any C S Ak A ck c W ((hk.below hW).more hW.size).rd ((hS.below hW).more hW.size).rd hVS.2.1 hC hL qf hqf)
    cases hf : qf
    · have hnf : ¬ Fit S C := fun h => by rw [hqf.2 h] at hf; cases hf
      rw [sliceR_slab hva hnf]
      subst hf
      clear hqv hqf hnf hva hVS hl ha hha hk hS hT hi
      go_enter Tryz.func17, Tryz.ntmps17
      go_wp2_with fail
      generalize (((w.alloc (.cells #[.slice A S.length c, .slice A' V.length c'] 25)).alloc (.cells #[.slice Ak C.length ck] 26)).alloc (.cells #[.slice none 0 0, .slice none 0 0] 25)) = W0 at *
      refine (VV.out W0 B0.below).mono ?_
      rintro e w1 ⟨hb1, rfl⟩
      have B1 := B0.next hb1
      obtain ⟨b0, b1⟩ := bkA B1.arr
      have s0 : w1.cell? ⟨w.heap.size + 1, 0, none⟩ = some (.slice Ak C.length ck) := B1.slab.cell 0
      go_wp2_with fail
      refine (FF.out w1 B1.below).mono ?_
      rintro e w2 ⟨hb2, rfl⟩
      have B2 := B1.next hb2
      obtain ⟨d0, d1⟩ := bkA B2.res
      have f0 := B2.res.frozen 0
      have f1 := B2.res.frozen 1
      clear b0 b1 s0
      go_wp2
      refine bodyPost_ret (v := .tuple #[.agg #[.slice none 0 0, .slice none 0 0], .int .i64 61]) (by simp [results, Tryz.results17, go_sem, d0, d1]) rfl ?_
      exact ⟨(B2.below.setCell (p := ⟨w.heap.size + 2, 0, none⟩) (by simp) _).setCell (p := ⟨w.heap.size + 2, 1, none⟩) (by simp) _, _, rfl, IsA.zero _ _⟩
    · have hF := hqf.1 hf
      rw [sliceR_ok hva hF]
      subst hf
      have hCV := fit_VS hVS hF
      unfold maxLen at hL
      have ST := Lib.hid (fun W (hW : Below w.heap.size w W) => strides_any (S.map Int.toNat) A c W hVS.sz (by rw [← hVS.cells]; exact ((hS.below hW).more hW.size).rd))
      rw [List.length_map] at ST
      have CN := Lib.hid (fun W (hW : Below w.heap.size w W) => counts_any C Ak ck W ((hk.below hW).more hW.size).rd (by rw [fit_len hF]; have := hVS.1; omega))
      have HK := Lib.hid (fun W (hW : Below w.heap.size w W) => ((hk.below hW).more hW.size).rd)
      have HT := Lib.hid (fun W (hW : Below w.heap.size w W) => ((hT.below hW).more hW.size).rd)
      have HH := Lib.hid (And.intro hVS (And.intro hl (And.intro hF hC)))
      have HCV := Lib.hid hCV
      clear hqv hqf hva hVS hl ha hha hk hS hT hi hF hC hCV
      go_enter Tryz.func17, Tryz.ntmps17
      go_wp2_with fail
      generalize (((w.alloc (.cells #[.slice A S.length c, .slice A' V.length c'] 25)).alloc (.cells #[.slice Ak C.length ck] 26)).alloc (.cells #[.slice none 0 0, .slice none 0 0] 25)) = W0 at *
      refine (VV.out W0 B0.below).mono ?_
      rintro e w1 ⟨hb1, rfl⟩
      have B1 := B0.next hb1
      obtain ⟨b0, b1⟩ := bkA B1.arr
      have s0 : w1.cell? ⟨w.heap.size + 1, 0, none⟩ = some (.slice Ak C.length ck) := B1.slab.cell 0
      go_wp2_with fail
      refine (FF.out w1 B1.below).mono ?_
      rintro e w2 ⟨hb2, rfl⟩
      have B2 := B1.next hb2
      clear b0 b1 s0 B1 hb1 hb2
      obtain ⟨b0, b1⟩ := bkA B2.arr
      go_wp2_with fail
      refine (ST.out w2 B2.below).mono ?_
      rintro e w3 ⟨hb3, rfl, hg3⟩
      have B3 := B2.next hb3
      have hs3 : w2.heap.size < w3.heap.size := hg3.lt
      clear b0 b1
      have b3 := below_alloc w3 (.cells #[.slice (some ⟨w2.heap.size, 0, none⟩) S.length S.length] 22)
      have B4 := B3.next b3
      have s0 : (w3.alloc (.cells #[.slice (some ⟨w2.heap.size, 0, none⟩) S.length S.length] 22)).cell? ⟨w.heap.size + 1, 0, none⟩ = some (.slice Ak C.length ck) := B4.slab.cell 0
      have k4 := Bk.new w3 22 #[.slice (some ⟨w2.heap.size, 0, none⟩) S.length S.length]
      have hg4 := hg3.next' b3
      go_wp2_with fail
      generalize w3.alloc (.cells #[.slice (some ⟨w2.heap.size, 0, none⟩) S.length S.length] 22) = W4 at *
      refine (CN.out W4 B4.below).mono ?_
      rintro e w5 ⟨hb5, v9, rfl, hown⟩
      rw [← cntI_len C] at hown
      have hI9 := IsI.of_own hown
      obtain ⟨A9, c9, rfl, hc9⟩ := hI9.form
      have B5 := B4.next hb5
      have hg5 := hg4.next' hb5
      have k5 := k4.next' hb5
      have hs5 : w3.heap.size < w5.heap.size := k5.lt
      have MK := Lib.hid (made_any (cntI C) 63 #[.pointer (some ⟨w.heap.size, 0, none⟩), .pointer (some ⟨w.heap.size + 1, 0, none⟩), .pointer (some ⟨w3.heap.size, 0, none⟩)] (enters_of Tryz.func63 (by kernel_rfl) rfl)
        (fun k => V.getD (place (S.map Int.toNat) (thr C (idx (cnt C) k))) ⟨#[]⟩) A9 c9 w5 HCV.out hI9.rd (fun k X W hW hk hX hbX => by
          obtain ⟨j1, j2, j3, j4⟩ := HH.out
          have B6 := B5.next hW
          have hg6 := hg5.next' hW
          have k6 := k5.next' hW
          rw [cntI_nat] at hk hbX
          rw [cntI_len]
          have e0 : W.cell? ⟨w.heap.size, 1, none⟩ = some (.slice A' V.length c') := B6.arr.cell 1
          have e1 : W.cell? ⟨w.heap.size + 1, 0, none⟩ = some (.slice Ak C.length ck) := B6.slab.cell 0
          have e2 : W.cell? ⟨w3.heap.size, 0, none⟩ = some (.slice (some ⟨w2.heap.size, 0, none⟩) S.length S.length) := k6.cell 0
          have := hW.size
          have := B5.res.lt
          exact (slice1_any S V C w.heap.size (w.heap.size + 1) w3.heap.size w2.heap.size X k w5.heap.size Ak A' ck c' W j1 j2 j3 j4 hk e0 e1 e2 ((HK.out w5 B5.below).below hW) ((HT.out w5 B5.below).below hW) (by
            have := hg5.rd.below hW
            simpa using this) hbX hW.size (by omega)).mono (fun e w' h => ⟨h.1, h.2⟩)))
      have HCL := Lib.hid (show cutOut (S.map Int.toNat) C V ⟨#[]⟩ = (List.range (Ix.prod ((cntI C).map Int.toNat))).map (fun k => V.getD (place (S.map Int.toNat) (thr C (idx (cnt C) k))) ⟨#[]⟩) from by rw [cntI_nat]; rfl)
      clear hown hg3 hg4 k4 hb3 b3 s0 hb5
      go_wp2_with fail
      refine MK.out.mono ?_
      rintro e w6 ⟨hb6, v6, rfl, hv6⟩
      rw [← HCL.out] at hv6
      have B6 := B5.next hb6
      clear MK HCL
      obtain ⟨A1, c1, A2, c2, rfl, hc1, hc2⟩ := hv6.form
      obtain ⟨d0, d1⟩ := bkA B6.res
      have f0 := B6.res.frozen 0
      have f1 := B6.res.frozen 1
      go_wp2
      refine bodyPost_ret (v := .tuple #[.agg #[.slice A1 (cntI C).length c1, .slice A2 (cutOut (S.map Int.toNat) C V ⟨#[]⟩).length c2], .int .i64 0]) (by simp [results, Tryz.results17, go_sem, d0, d1]) rfl ?_
      exact ⟨(B6.below.setCell (p := ⟨w.heap.size + 2, 0, none⟩) (by simp) _).setCell (p := ⟨w.heap.size + 2, 1, none⟩) (by simp) _, _, rfl, by
        have := hv6.put2 d0 d1 (.slice A1 (cntI C).length c1) (.slice A2 (cutOut (S.map Int.toNat) C V ⟨#[]⟩).length c2)
        simpa [World.setCell] using this⟩
end Go.Proofs.YtgnffedncjjkfaaGreatDoor
