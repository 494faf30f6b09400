/-
  Walks: what a pipeline decodes (codec.Decode).
-/
import Derived.Test.YtpkhgdnkkdhlcaaGreatDoorDeP
import Derived.Test.YtpkhgdnkkdhlcaaGreatDoorDeC
import Derived.Test.YtpkhgdnkkdhlcaaGreatDoorPuX
import Derived.RangeFuncFrom
import Derived.RegionIn
namespace Go.Proofs.YtpkhgdnkkdhlcaaGreatDoor
open Go.RowKit Go.Shelf Ar By
attribute [local go_sem] Oper.semAt_some

theorem bk_own {W W' : World} {g : Nat} {T : TypeId} {cs : Array Value} {row : Option Nat} (h : Bk W g T cs) (hg : W.grownBy W' row) (hr : ∀ r, row = some r → ∃ o : Obj, W.heap[r]? = some o ∧ o.isCells = false) : Bk W' g T cs :=
  h.grown hg fun e => by
    obtain ⟨o, ho, hc⟩ := hr g e.symm
    rw [show W.heap[g]? = _ from h] at ho
    cases ho
    cases hc
theorem rd_own {W W' : World} {A : Option Addr} {xs : List Value} {row : Option Nat} (h : Rd W W.heap.size A xs) (hg : W.grownBy W' row) (hr : ∀ r, row = some r → ∃ o : Obj, W.heap[r]? = some o ∧ o.isCells = false) : Rd W' W'.heap.size A xs := fun hn => by
  obtain ⟨ad, e, hb, hc⟩ := h hn
  refine ⟨ad, e, Nat.lt_of_lt_of_le hb hg.size, fun j u hu => ?_⟩
  have h1 := hc j u hu
  have hlt := World.block_lt_of_cell? _ _ h1
  have hne : some (ad.add j).block ≠ row := fun e' => by
    obtain ⟨o, ho, hcl⟩ := hr _ e'.symm
    unfold World.cell? at h1
    rw [ho] at h1
    cases o <;> first | (simp at h1; done) | (simp [Obj.isCells] at hcl; done)
  exact (World.cell?_of_block (hg.block _ hlt hne)).trans h1
theorem pre_rev {C : List Stg} (d : Stg) {pre : List { j : Nat // j < C.length }} (h : pre.map (·.1) = List.range pre.length) : pre.map (fun x => C.getD (C.length - 1 - x.1) d) = C.reverse.take pre.length := by
  have hp : pre.length ≤ C.length := by
    rcases Nat.eq_zero_or_pos pre.length with h0 | h0
    · omega
    · have hm : pre.length - 1 ∈ pre.map (·.1) := by rw [h]; exact List.mem_range.2 (by omega)
      obtain ⟨x, -, hx⟩ := List.mem_map.1 hm
      have := x.2
      omega
  rw [← rev_take C d _ hp, ← h, List.map_map]
  rfl
theorem rd_put_far {w : World} {B : Nat} {A : Option Addr} {xs : List Value} (h : Rd w B A xs) {q : Addr} {c : Value} (hc : w.cell? q = some c) (hn : ∀ v ∈ xs, v ≠ c) (u : Value) : Rd (w.setCell q u) B A xs := fun hne => by
  obtain ⟨ad, e, hb, hcell⟩ := h hne
  refine ⟨ad, e, hb, fun j v hv => ?_⟩
  have h1 := hcell j v hv
  by_cases he : q = ad.add j
  · rw [← he, hc] at h1
    injection h1 with h1
    exact absurd h1.symm (hn v (List.mem_of_getElem? hv))
  · exact (World.cell?_setCell_other w q (ad.add j) u he).trans h1
theorem strs_not {L : List ByteArray} {c : Value} (h : ∀ s, c ≠ .string s) : ∀ v ∈ strs L, v ≠ c := fun v hv e => by
  obtain ⟨s, -, hs⟩ := List.mem_map.1 hv
  exact h s (e.symm.trans hs.symm)
theorem ints_not {k : IntKind} {l : List Nat} {c : Value} (h : ∀ k i, c ≠ .int k i) : ∀ v ∈ ints k l, v ≠ c := fun v hv e => by
  simp only [ints, List.mem_map] at hv
  obtain ⟨y, -, hy⟩ := hv
  exact h _ _ (e.symm.trans hy.symm)
theorem two_cells {w1 : World} {g : Nat} {T0 T1 : TypeId} {u0 u1 : Value} (y0 : Bk w1 g T0 #[u0]) (y1 : Bk w1 (g + 1) T1 #[u1]) (v0 v1 : Value) :
    Bk ((w1.setCell ⟨g, 0, none⟩ v0).setCell ⟨g + 1, 0, none⟩ v1) g T0 #[v0] ∧ Bk ((w1.setCell ⟨g, 0, none⟩ v0).setCell ⟨g + 1, 0, none⟩ v1) (g + 1) T1 #[v1] := by
  refine ⟨?_, ?_⟩
  · have := (y0.put 0 v0).far (p := ⟨g + 1, 0, none⟩) (by show g ≠ g + 1; omega) v1
    simpa using this
  · have := (y1.far (p := ⟨g, 0, none⟩) (by show g + 1 ≠ g; omega) v0).put 0 v1
    simpa using this
theorem two_below {w w1 : World} {g : Nat} (h : Below g w w1) (v0 v1 : Value) : Below g w ((w1.setCell ⟨g, 0, none⟩ v0).setCell ⟨g + 1, 0, none⟩ v1) :=
  (h.setCell (p := ⟨g, 0, none⟩) (Nat.le_refl _) v0).setCell (p := ⟨g + 1, 0, none⟩) (by show g ≤ g + 1; omega) v1

set_option maxRecDepth 100000 in
set_option maxHeartbeats 8000000 in
theorem decode_any (k n : Int) (C : List Stg) (b : List Nat) (A Ab : Option Addr) (cs cb : Nat) (w : World) (hC : Rd w w.heap.size A (srow C)) (hCl : C.length ≤ 1000000) (hsz : ∀ x ∈ C, x.2.2.size ≤ 4000000)
    (h : Rd w w.heap.size Ab (ints .u8 b)) (hb : Bytes b) (hL : b.length ≤ 1048576) (hc : b.length ≤ cb) (he : Env w) (her : EnvR w) (hg : EnvG w) :
    Calls Tryz.prog 27 #[.int .i64 k, .slice A C.length cs, .int .i64 n, .slice Ab b.length cb] w fun e w' => Below w.heap.size w w' ∧ ∃ v, e = .returned (.tuple #[v, .int .i64 (decR k C n b).2]) ∧ IsT w' w'.heap.size v (decR k C n b).1 := by
  have B0 : Below w.heap.size w ((w.alloc (.cells #[.slice none 0 0] 22)).alloc (.cells #[.int .i64 0] 26)) := ((Below.refl _ _).alloc (Nat.le_refl _) _).alloc (by simp) _
  have x0 : Bk ((w.alloc (.cells #[.slice none 0 0] 22)).alloc (.cells #[.int .i64 0] 26)) w.heap.size 22 #[.slice none 0 0] := (Bk.new w _ _).alloc _
  have x1 : Bk ((w.alloc (.cells #[.slice none 0 0] 22)).alloc (.cells #[.int .i64 0] 26)) (w.heap.size + 1) 26 #[.int .i64 0] := by
    have := Bk.new (w.alloc (.cells #[.slice none 0 0] 22)) 26 #[Value.int .i64 0]
    rwa [World.size_alloc] at this
  have VA := Lib.hid (ppipe_any k C A cs _ ((hC.below B0).more B0.size) hCl hsz (he.next B0))
  obtain ⟨RE, hRE⟩ : ∃ r, decR k C n b = r := ⟨_, rfl⟩
  rw [hRE]
  obtain ⟨R1, R2⟩ := RE
  have HR := Lib.hid hRE
  clear hRE
  have HX := Lib.hid (And.intro B0 (And.intro x0 x1))
  clear B0 x0 x1
  refine (callsIn_wide (n := 3)).1 ?_
  refine callsIn_of_wp_marks Tryz.func27 rfl trivial ?_ rfl
  simp only [Tryz.ntmps27, List.size_toArray, List.length_cons, List.length_nil, Nat.reduceAdd, Nat.reduceSub, Array.replicate_succ, Array.replicate_zero, List.push_toArray, List.append_toArray, List.nil_append, List.cons_append]
  refine wpIn_wide.2 ?_
  go_wp2_with fail
  refine VA.out.mono ?_
  rintro e w1 ⟨hb1, rfl⟩
  obtain ⟨B0, x0, x1⟩ := HX.out
  have B1 := B0.trans (hb1.mono B0.size)
  have y0 := x0.next' hb1
  have y1 := x1.next' hb1
  have hsw : w.heap.size + 2 ≤ w1.heap.size := by have := hb1.size; simp at this; omega
  clear x0 x1 B0 hb1 VA HX
  have d0 := y0.cell 0
  have f0 := y0.frozen 0
  have d1 := y1.cell 0
  have f1 := y1.frozen 0
  cases hp : pipeB k C with
  | false =>
    have e := HR.out.symm.trans (decR_stage hp)
    injection e with e1 e2
    subst e1
    subst e2
    go_wp2
    obtain ⟨z0, z1⟩ := two_cells y0 y1 (.slice none 0 0) (.int .i64 40)
    have zb := two_below B1 (.slice none 0 0) (.int .i64 40)
    have c0 := z0.cell 0
    have c1 := z1.cell 0
    refine ⟨.tuple #[.slice none 0 0, .int .i64 40], by simp [results, Tryz.results27, go_sem, c0, c1], zb, _, rfl, IsT.nil _ _⟩
  | true =>
  by_cases hn : 0 ≤ n ∧ n ≤ 4096
  rotate_left
  · have e := HR.out.symm.trans (decR_arg hp hn)
    injection e with e1 e2
    subst e1
    subst e2
    rcases Int.lt_or_le n 0 with h0 | h0
    · clear hn
      go_wp2
      obtain ⟨z0, z1⟩ := two_cells y0 y1 (.slice none 0 0) (.int .i64 2)
      have zb := two_below B1 (.slice none 0 0) (.int .i64 2)
      have c0 := z0.cell 0
      have c1 := z1.cell 0
      refine ⟨.tuple #[.slice none 0 0, .int .i64 2], by simp [results, Tryz.results27, go_sem, c0, c1], zb, _, rfl, IsT.nil _ _⟩
    · have h4 : 4096 < n := by
        rcases Int.lt_or_le 4096 n with h | h
        · exact h
        · exact absurd ⟨h0, h⟩ hn
      clear hn
      go_wp2
      obtain ⟨z0, z1⟩ := two_cells y0 y1 (.slice none 0 0) (.int .i64 2)
      have zb := two_below B1 (.slice none 0 0) (.int .i64 2)
      have c0 := z0.cell 0
      have c1 := z1.cell 0
      refine ⟨.tuple #[.slice none 0 0, .int .i64 2], by simp [results, Tryz.results27, go_sem, c0, c1], zb, _, rfl, IsT.nil _ _⟩
  have hn1 := hn.1
  have hn2 := hn.2
  by_cases h4 : b.length < 4
  · have e := HR.out.symm.trans (decR_seal hp hn (fun hs => by have := hs.1; omega))
    injection e with e1 e2
    subst e1
    subst e2
    have h4I : (b.length : Int) < 4 := by omega
    go_wp2
    obtain ⟨z0, z1⟩ := two_cells y0 y1 (.slice none 0 0) (.int .i64 5)
    have zb := two_below B1 (.slice none 0 0) (.int .i64 5)
    have c0 := z0.cell 0
    have c1 := z1.cell 0
    refine ⟨.tuple #[.slice none 0 0, .int .i64 5], by simp [results, Tryz.results27, go_sem, c0, c1], zb, _, rfl, IsT.nil _ _⟩
  have h4I : ¬ (b.length : Int) < 4 := by omega
  obtain ⟨m, hm⟩ : ∃ m, m = b.length - 4 := ⟨_, rfl⟩
  have m1 : (b.length : Int) - 4 = (m : Int) := by omega
  have m2 : (m : Int) ≤ (cb : Int) := by omega
  have m3 : m ≤ b.length := by omega
  have m4 : (m : Int) ≤ (b.length : Int) := by omega
  have m5 : IntKind.i64.wrap (m : Int) = (m : Int) := IntWalk.i64_in _ (by omega)
  have m6 : b.length - m = 4 := by omega
  have htk : (b.take m).length = m := by rw [List.length_take]; omega
  have hdk : (b.drop m).length = 4 := by rw [List.length_drop]; omega
  obtain ⟨hty, hc4, hstg⟩ := pipe_n hp
  obtain ⟨q, hq⟩ : ∃ q : Bool, q = true ↔ b.drop m = sealB (b.take m) := by classical exact ⟨decide _, decide_eq_true_iff⟩
  have hso : q = true ↔ SealOk b := by
    rw [hq]
    unfold SealOk
    rw [← hm]
    exact ⟨fun e => ⟨by omega, e⟩, fun e => e.2⟩
  have HBAD : Hid (q = false → (R1, R2) = ([], 5)) := fun hf => by
    rw [← HR.out]
    exact decR_seal hp hn (fun hs => by rw [hso.2 hs] at hf; cases hf)
  have HNO : Hid (q = true → unB C.reverse (b.take m) = none → (R1, R2) = ([], 5)) := fun ht hu => by
    rw [← HR.out]
    exact decR_none hp hn (hso.1 ht) (by rw [← hm]; exact hu)
  have HGE : Hid (q = true → ∀ o, unB C.reverse (b.take m) = some o → (R1, R2) = getG k n o) := fun ht o hu => by
    rw [← HR.out]
    exact decR_get hp hn (hso.1 ht) (by rw [← hm]; exact hu)
  have HFM := Lib.hid (fun o => getG_form (b := o) hty hn)
  have HQ := Lib.hid hq
  have HM := Lib.hid hm
  clear hso hq hp hn h4 hty HR hm
  have hbt := hb.take m
  have hrt := h.take m
  rw [← ints_take] at hrt
  have hrd := h.cut (k := m) (cap := cb) (by rw [ints_length]; exact hc)
  rw [← ints_drop] at hrd
  go_wp2_with fail
  have BA : Below w1.heap.size w1 (w1.alloc (.cells #[.slice Ab m cb] 25)) := (Below.refl _ _).alloc (Nat.le_refl _) _
  have y2 : Bk (w1.alloc (.cells #[.slice Ab m cb] 25)) w1.heap.size 25 #[.slice Ab m cb] := Bk.new w1 _ _
  have y0 := y0.next' BA
  have y1 := y1.next' BA
  have B2 := B1.trans (BA.mono B1.size)
  have hnb : w.heap.size + 2 ≤ w1.heap.size := hsw
  generalize hnbk : w1.heap.size = nb at *
  have hs2 : nb + 1 ≤ (w1.alloc (.cells #[.slice Ab m cb] 25)).heap.size := by rw [World.size_alloc]; omega
  generalize w1.alloc (.cells #[.slice Ab m cb] 25) = w2 at *
  clear d0 d1 f0 f1 B1 BA hnbk
  have SE := Lib.hid (fun W (hW : Below w2.heap.size w2 W) => sealed_any Ab cb (b.take m) W hbt (by omega) ((hrt.below (B2.trans (hW.mono B2.size))).more (Nat.le_trans B2.size hW.size)))
  rw [htk] at SE
  have CE := Lib.hid (fun W (hW : Below w2.heap.size w2 W) => (y2.next' hW).cell 0)
  refine wp_region_noPanic ?_
  refine wp_region_held_drew (S := fun W => Below w2.heap.size w2 W) (by kernel_rfl) (below_drewN (Below.refl _ _) 1) (fun hS => ?_)
  generalize w2.drew = wd at *
  refine takeA (i := 0) (v := ?_) rfl (by kernel_rfl) (by kernel_rfl) (by kernel_rfl) (fun _ _ _ h => h) (by rfl) (by assumption) ?_ ?_
  rotate_left
  · intro w hSw; (try dsimp only at hSw); go_simp <;> with_reducible rfl
  try simp only [Act.put, List.setIfInBounds_toArray, List.set_cons_zero, List.set_cons_succ]
  refine takeA (i := 1) (v := ?_) rfl (by kernel_rfl) (by kernel_rfl) (by kernel_rfl) (fun _ _ _ h => h) (by rfl) (by assumption) ?_ ?_
  rotate_left
  · intro w hSw; (try dsimp only at hSw); go_simp <;> with_reducible rfl
  try simp only [Act.put, List.setIfInBounds_toArray, List.set_cons_zero, List.set_cons_succ]
  refine takeA (i := 2) (v := ?_) rfl (by kernel_rfl) (by kernel_rfl) (by kernel_rfl) (fun _ _ _ h => h) (by rfl) (by assumption) ?_ ?_
  rotate_left
  · intro w hSw; (try dsimp only at hSw); go_simp <;> with_reducible rfl
  try simp only [Act.put, List.setIfInBounds_toArray, List.set_cons_zero, List.set_cons_succ]
  refine takeA (i := 3) (v := .int .i64 (m : Int)) rfl (by kernel_rfl) (by kernel_rfl) (by kernel_rfl) (fun _ _ _ h => h) (by rfl) (by assumption) ?_ ?_
  · intro W hSw; (try dsimp only at hSw); go_simp <;> first | with_reducible rfl | simp [*]
  try simp only [Act.put, List.setIfInBounds_toArray, List.set_cons_zero, List.set_cons_succ]
  refine takeA (i := 4) (v := ?_) rfl (by kernel_rfl) (by kernel_rfl) (by kernel_rfl) (fun _ _ _ h => h) (by rfl) (by assumption) ?_ ?_
  rotate_left
  · intro w hSw; (try dsimp only at hSw); go_simp <;> with_reducible rfl
  try simp only [Act.put, List.setIfInBounds_toArray, List.set_cons_zero, List.set_cons_succ]
  refine takeA (i := 5) (v := .slice Ab m cb) rfl (by kernel_rfl) (by kernel_rfl) (by kernel_rfl) (fun _ _ _ h => h) (by rfl) (by assumption) ?_ ?_
  · intro W hSw; (try dsimp only at hSw); have q2 := CE.out W hSw; go_simp <;> first | with_reducible rfl | simp [q2]
  try simp only [Act.put, List.setIfInBounds_toArray, List.set_cons_zero, List.set_cons_succ]
  generalize (if cb = m then Ab else Ab.map (·.add m)) = A1 at *
  refine stepA (i := 6) rfl (by kernel_rfl) (fun K0 hK0 => ?_)
  go_simp
  refine (SE.out wd hS).mono ?_
  rintro e w3 ⟨hb3, u, rfl, A3, c3, rfl, hc3, hr3⟩
  dsimp only
  have hB3 := hS.trans (hb3.mono hS.size)
  refine hK0.out _ _ hB3 (fun _ => ?_)
  clear hK0 K0
  try simp only [Act.put, List.setIfInBounds_toArray, List.set_cons_zero, List.set_cons_succ]
  have BE := Lib.hid (bequal_any (b.drop m) (sealB (b.take m)) A1 A3 (cb - m) c3 w.heap.size w3.heap.size w3 (hrd.below (B2.trans (hB3.mono B2.size))) hr3 (Nat.le_trans B2.size hB3.size) (Nat.le_refl _) (by omega) (by rw [sealB_len]; omega) q HQ.out)
  rw [hdk, sealB_len] at BE
  refine stepA (i := 7) rfl (by kernel_rfl) (fun K0 hK0 => ?_)
  go_simp
  try rw [sealB_len]
  refine BE.out.mono ?_
  rintro e w4 ⟨hb4, rfl⟩
  dsimp only
  have hB4 := hB3.trans (hb4.mono hB3.size)
  refine hK0.out _ _ hB4 (fun _ => ?_)
  clear hK0 K0
  try simp only [Act.put, List.setIfInBounds_toArray, List.set_cons_zero, List.set_cons_succ]
  refine takeA (i := 8) (v := ?_) rfl (by kernel_rfl) (by kernel_rfl) (by kernel_rfl) (fun _ _ _ h => h) (by rfl) (by assumption) ?_ ?_
  rotate_left
  · intro w hSw; (try dsimp only at hSw); go_simp <;> with_reducible rfl
  try simp only [Act.put, List.setIfInBounds_toArray, List.set_cons_zero, List.set_cons_succ]
  refine wpAnyH_done (by kernel_rfl) ?_ _
  unfold NoPanic
  dsimp only
  have y0 := y0.next' hB4
  have y1 := y1.next' hB4
  have y2 := y2.next' hB4
  have B4 := B2.trans (hB4.mono B2.size)
  have hs4 : nb + 1 ≤ w4.heap.size := by have := hB4.size; omega
  clear SE CE BE hr3 hb3 hb4 hS hB3 hB4 B2
  have d0 := y0.cell 0
  have f0 := y0.frozen 0
  have d1 := y1.cell 0
  have f1 := y1.frozen 0
  cases q with
  | false =>
    have e := HBAD.out rfl
    injection e with e1 e2
    subst e1
    subst e2
    go_wp2
    obtain ⟨z0, z1⟩ := two_cells y0 y1 (.slice none 0 0) (.int .i64 5)
    have zb := two_below B4 (.slice none 0 0) (.int .i64 5)
    have c0 := z0.cell 0
    have c1 := z1.cell 0
    refine ⟨.tuple #[.slice none 0 0, .int .i64 5], by simp [results, Tryz.results27, go_sem, c0, c1], zb, _, rfl, IsT.nil _ _⟩
  | true =>
  have HNO' := Lib.hid (HNO.out rfl)
  have HGE' := Lib.hid (HGE.out rfl)
  clear HBAD HNO HGE HQ hrd d0 d1 f0 f1
  generalize hT0 : b.take m = b0 at *
  clear hT0
  go_wp2_with fail
  refine (backward_any A C.length cs w4).mono ?_
  rintro e w5 ⟨rfl, hw5⟩
  have y3 : Bk w5 w4.heap.size 37 #[.slice A C.length cs] := by rw [hw5]; exact Bk.new _ _ _
  have BB : Below w4.heap.size w4 w5 := by rw [hw5]; exact (Below.refl _ _).alloc (Nat.le_refl _) _
  have hs5 : w5.heap.size = w4.heap.size + 1 := by rw [hw5, World.size_alloc]
  clear hw5
  have y0 := y0.next' BB
  have y1 := y1.next' BB
  have y2 := y2.next' BB
  have B5 := B4.trans (BB.mono B4.size)
  have hr5 := (hrt.below B5).more B5.size
  have hC5 := hC.below B5
  clear BB B4
  go_wp2
  refine (wpIn_wide (n := 3)).1 ?_
  refine wpIn_rangeFunc_ownH (F := Fence.wide) (n := 3) rfl (by omega) (gf := 108) (lb := #[.pointer (some ⟨w4.heap.size, 0, none⟩)]) rfl trivial (enters_of Tryz.func108 (by kernel_rfl) rfl)
    (back_stops (3 - 1) (by omega) w4.heap.size cs C A (by omega) w5 w.heap.size B5.size (by omega) (y3.cell 0) hC5) KeepS.trans
    (fun W l o o' hl ho _ _ => ⟨World.cell?_of_block ((grownBy_putObj' W l o').block w4.heap.size (by have := (Array.getElem?_eq_some_iff.1 ho).1; omega) (by intro e; cases e; omega)), fun p hp => World.cell?_of_block ((grownBy_putObj' W l o').block p.block (by have := (Array.getElem?_eq_some_iff.1 ho).1; omega) (by intro e; cases e; omega))⟩)
    (Below.refl _ _) (fun _ => rfl)
    (fun pre W => ∃ (cur : List Nat) (Av : Option Addr) (cv : Nat), Hid (unB (pre.map fun x => C.getD (C.length - 1 - x.1) (0, 0, ⟨#[]⟩)) b0 = some cur) ∧ cur.length ≤ cv ∧ Rd W W.heap.size Av (ints .u8 cur) ∧ Bk W nb 25 #[.slice Av cur.length cv] ∧ Bk W w.heap.size 22 #[.slice none 0 0] ∧ Bk W (w.heap.size + 1) 26 #[.int .i64 0] ∧ Bk W w4.heap.size 37 #[.slice A C.length cs] ∧ Below w.heap.size w W)
    (fun c pre W => c = .ret ∧ Hid (unB (pre.map fun x => C.getD (C.length - 1 - x.1) (0, 0, ⟨#[]⟩)) b0 = none) ∧ Bk W w.heap.size 22 #[.slice none 0 0] ∧ Bk W (w.heap.size + 1) 26 #[.int .i64 5] ∧ Below w.heap.size w W)
    (fun s W W' row hs hg hr => by
      obtain ⟨cur, Av, cv, h1, h2, h3, h4, h5, h6, h7, h8⟩ := hs
      have hr' := fun r e => (hr r e).2
      exact ⟨cur, Av, cv, h1, h2, rd_own h3 hg hr', bk_own h4 hg hr', bk_own h5 hg hr', bk_own h6 hg hr', bk_own h7 hg hr', h8.grown hg h8.size (fun r e => by have := (hr r e).1; have := B5.size; omega)⟩)
    (fun c s W W' row hs hg hr => by
      obtain ⟨h1, h2, h3, h4, h5⟩ := hs
      have hr' := fun r e => (hr r e).2
      exact ⟨h1, h2, bk_own h3 hg hr', bk_own h4 hg hr', h5.grown hg h5.size (fun r e => by have := (hr r e).1; have := B5.size; omega)⟩)
    ⟨b0, Ab, cb, rfl, by omega, hr5, (by rw [htk]; exact y2), y0, y1, y3, B5⟩
    (fun x a' W => ∃ p, w5.heap.size ≤ p ∧ Bk W p 52 #[.int .i64 (C.getD (C.length - 1 - x.1) (0, 0, ⟨#[]⟩)).1, .int .i64 (C.getD (C.length - 1 - x.1) (0, 0, ⟨#[]⟩)).2.1, .string (C.getD (C.length - 1 - x.1) (0, 0, ⟨#[]⟩)).2.2] ∧ a' = { tmps := #[.int .i64 k, .slice A C.length cs, .int .i64 n, .slice Ab b.length cb, undef, undef, undef, undef, .pointer (some ⟨w.heap.size, 0, none⟩), .pointer (some ⟨w.heap.size + 1, 0, none⟩), .pointer (some ⟨nb, 0, none⟩), undef, .pointer (some ⟨p, 0, none⟩), undef, undef, undef, undef, .bool false, .int .i64 k, .slice A C.length cs, .bool true, .bool false, .bool (decide (n < 0) || decide (4096 < n)), .int .i64 n, .bool (decide (n < 0)), .bool (decide (n < 0)), .int .i64 n, .bool (decide (4096 < n)), .bool (decide (n < 0) || decide (4096 < n)), .bool (decide ((b.length : Int) < 4)), .slice Ab b.length cb, .int .i64 (b.length : Int), .bool (decide ((b.length : Int) < 4)), .slice Ab b.length cb, .slice Ab b.length cb, .int .i64 (b.length : Int), .int .i64 (m : Int), .slice Ab m cb, .slice Ab b.length cb, .slice Ab b.length cb, .int .i64 (b.length : Int), .int .i64 (m : Int), .slice A1 4 (cb - m), .slice Ab m cb, .slice A3 4 c3, .bool true, .bool false, .slice A C.length cs, .func (.func 108) #[] #[.pointer (some ⟨w4.heap.size, 0, none⟩)], .int .i64 ((C.length : Int) - 1 - x.1), .agg #[.int .i64 (C.getD (C.length - 1 - x.1) (0, 0, ⟨#[]⟩)).1, .int .i64 (C.getD (C.length - 1 - x.1) (0, 0, ⟨#[]⟩)).2.1, .string (C.getD (C.length - 1 - x.1) (0, 0, ⟨#[]⟩)).2.2], undef, undef, undef, undef, undef, undef, undef, undef, undef, undef, undef, undef, undef, undef, undef, undef, undef, undef, undef], defers := [] })
    (fun x a' s W W' row hs hg hr => by
      obtain ⟨p, h1, h2, h3⟩ := hs
      exact ⟨p, h1, bk_own h2 hg (fun r e => (hr r e).2), h3⟩)
    ?assign ?body ?done ?stop
  case assign =>
    rintro l' pre x W K ⟨cur, Av, cv, hU, hcv, hrd, z2, z0, z1, z3, hB⟩ hK
    unfold encS
    have hlt3 := z3.lt
    generalize C.getD (C.length - 1 - x.1) (0, 0, ⟨#[]⟩) = st at *
    gi_wp2
    have BA : Below W.heap.size W (W.alloc (.cells #[.int .i64 st.1, .int .i64 st.2.1, .string st.2.2] 52)) := (Below.refl _ _).alloc (Nat.le_refl _) _
    exact hK _ _ ((KeepsOthers.alloc W _).from _) ⟨BA.cell (p := ⟨w4.heap.size, 0, none⟩) hlt3, fun p hp => BA.cell (p := p) (Nat.lt_of_lt_of_le hp hB.size)⟩
      ⟨cur, Av, cv, hU, hcv, (hrd.below BA).more BA.size, z2.next' BA, z0.next' BA, z1.next' BA, z3.next' BA, hB.trans (BA.mono hB.size)⟩
      ⟨W.heap.size, by omega, Bk.new _ _ _, rfl⟩
  case body =>
    rintro l' pre x a' W hl' hloop ⟨cur, Av, cv, hU, hcv, hrd, z2, z0, z1, z3, hB⟩ ⟨p, hp, zp, rfl⟩ hlt
    obtain ⟨hbc, hlc⟩ := unB_ok _ hbt (by omega) hU.out
    obtain ⟨st, hst⟩ : ∃ st, C.getD (C.length - 1 - x.1) (0, 0, ⟨#[]⟩) = st := ⟨_, rfl⟩
    have hsn : StgN st := by
      rw [← hst]
      have hx := x.2
      rw [List.getD_eq_getElem?_getD, List.getElem?_eq_getElem (show C.length - 1 - x.1 < C.length by omega)]
      exact hstg _ (List.getElem_mem _)
    have hmp : (pre ++ [x]).map (fun x => C.getD (C.length - 1 - x.1) (0, 0, ⟨#[]⟩)) = pre.map (fun x => C.getD (C.length - 1 - x.1) (0, 0, ⟨#[]⟩)) ++ [st] := by
      rw [List.map_append, List.map_singleton, hst]
    have HUN : Hid (unB ((pre ++ [x]).map fun x => C.getD (C.length - 1 - x.1) (0, 0, ⟨#[]⟩)) b0 = bkS st cur) := by
      show _ = _
      rw [hmp, unB_snoc, hU.out]; rfl
    have HB := back_any st Av cv cur W hsn hbc hcv hlc hrd
    rw [hst] at zp ⊢
    have q0 := zp.cell 0
    have q1 := zp.cell 1
    have q2 := zp.cell 2
    have d2 := z2.cell 0
    have hlt3 := z3.lt
    clear hmp hst hU hsn
    unfold stgV at HB
    obtain ⟨s1, s2, s3⟩ := st
    dsimp only at HB q0 q1 q2 ⊢
    cases hbk : bkS (s1, s2, s3) cur with
    | some o =>
      have H1 : Calls Tryz.prog 62 #[.agg #[.int .i64 s1, .int .i64 s2, .string s3], .slice Av cur.length cv] W fun e W' => Below W.heap.size W W' ∧ ∃ A5 c5, e = .returned (.tuple #[.slice A5 o.length c5, .int .i64 0]) ∧ o.length ≤ c5 ∧ Rd W' W'.heap.size A5 (ints .u8 o) := HB.mono fun e W' ⟨h1, h2⟩ => by
        rcases h2 with ⟨o', v, ho, he, A5, c5, hv, hc5, hr5⟩ | ⟨hn, _⟩
        · rw [hbk] at ho
          injection ho with ho
          subst ho
          exact ⟨h1, A5, c5, by rw [he, hv], hc5, hr5⟩
        · rw [hbk] at hn; cases hn
      rw [hbk] at HUN
      have HC := Lib.hid H1
      clear HB H1 hbk
      gi_wp2_with (refine ⟨trivial, ?_⟩; gi_at_call 62; refine (CallsIn.inRound l' (callsIn_wide.2 HC.out)).mono ?_; rintro e w8 ⟨hb8, A5, c5, rfl, hc5, hr5⟩; have z2' := z2.next' hb8; have d8 := z2'.cell 0; have f8 := z2'.frozen 0)
      have BW : Below w.heap.size W (w8.setCell ⟨nb, 0, none⟩ (.slice A5 o.length c5)) := (hb8.mono hB.size).setCell (p := ⟨nb, 0, none⟩) (by show w.heap.size ≤ nb; omega) _
      have k3 : Bk (w8.setCell ⟨nb, 0, none⟩ (.slice A5 o.length c5)) w4.heap.size 37 #[.slice A C.length cs] := (z3.next' hb8).far (p := ⟨nb, 0, none⟩) (by show w4.heap.size ≠ nb; omega) _
      have KF : KeepsFrom w5.heap.size W (w8.setCell ⟨nb, 0, none⟩ (.slice A5 o.length c5)) := (KeepsFrom.of_grownBy (grown_of_below hb8 none) (fun j e => by cases e)).trans ((KeepsOthers.setCell w8 _ _).from _)
      have k0 : Bk (w8.setCell ⟨nb, 0, none⟩ (.slice A5 o.length c5)) w.heap.size 22 #[.slice none 0 0] := (z0.next' hb8).far (p := ⟨nb, 0, none⟩) (by show w.heap.size ≠ nb; omega) _
      have k1 : Bk (w8.setCell ⟨nb, 0, none⟩ (.slice A5 o.length c5)) (w.heap.size + 1) 26 #[.int .i64 0] := (z1.next' hb8).far (p := ⟨nb, 0, none⟩) (by show w.heap.size + 1 ≠ nb; omega) _
      have k2 : Bk (w8.setCell ⟨nb, 0, none⟩ (.slice A5 o.length c5)) nb 25 #[.slice A5 o.length c5] := by
        have := z2'.put 0 (.slice A5 o.length c5)
        simpa using this
      have hsz8 : (w8.setCell ⟨nb, 0, none⟩ (.slice A5 o.length c5)).heap.size = w8.heap.size := by simp [World.setCell]
      exact ⟨KF, ⟨(k3.cell 0).trans (z3.cell 0).symm, fun p hp => BW.cell (p := p) hp⟩, o, A5, c5, HUN.out, hc5, by rw [hsz8]; exact rd_put_far hr5 d8 (ints_not fun _ _ e => by cases e) _, k2, k0, k1, k3, hB.trans BW⟩
    | none =>
      have H1 : Calls Tryz.prog 62 #[.agg #[.int .i64 s1, .int .i64 s2, .string s3], .slice Av cur.length cv] W fun e W' => Below W.heap.size W W' ∧ ∃ (v : Value) (g : Int), g ≠ 0 ∧ e = .returned (.tuple #[v, .int .i64 g]) := HB.mono fun e W' ⟨h1, h2⟩ => by
        rcases h2 with ⟨o', v, ho, _⟩ | ⟨_, v, g, hg0, he⟩
        · rw [hbk] at ho; cases ho
        · exact ⟨h1, v, g, hg0, he⟩
      rw [hbk] at HUN
      have HC := Lib.hid H1
      clear HB H1 hbk
      gi_wp2_with (refine ⟨trivial, ?_⟩; gi_at_call 62; refine (CallsIn.inRound l' (callsIn_wide.2 HC.out)).mono ?_; rintro e w8 ⟨hb8, v, g, hg0, rfl⟩; have z0' := z0.next' hb8; have z1' := z1.next' hb8; have d8 := z0'.cell 0; have f8 := z0'.frozen 0; have d9 := z1'.cell 0; have f9 := z1'.frozen 0; have hg1 : (g != 0) = true := by simp [hg0])
      obtain ⟨k0, k1⟩ := two_cells z0' z1' (.slice none 0 0) (.int .i64 5)
      have KF : KeepsFrom w5.heap.size W ((w8.setCell ⟨w.heap.size, 0, none⟩ (.slice none 0 0)).setCell ⟨w.heap.size + 1, 0, none⟩ (.int .i64 5)) := (KeepsFrom.of_grownBy (grown_of_below hb8 none) (fun j e => by cases e)).trans (((KeepsOthers.setCell w8 _ _).trans (KeepsOthers.setCell _ _ _)).from _)
      exact ⟨KF, rfl, HUN.out, k0, k1, two_below (hB.trans (hb8.mono hB.size)) _ _⟩
  case done =>
    rintro D xs W hD hS ⟨cur, Av, cv, hU, hcv, hrd, z2, z0, z1, z3, hB⟩ hK
    have hxl : xs.length = C.length := by have := congrArg List.length hS; simpa using this
    have hu := hU.out
    rw [pre_rev (0, 0, ⟨#[]⟩) (by rw [hxl]; exact hS), List.take_of_length_le (by rw [List.length_reverse, hxl]; exact Nat.le_refl _)] at hu
    obtain ⟨hbc, hlc⟩ := unB_ok _ hbt (by omega) hu
    have hRE := HGE'.out cur hu
    have GT0 := pget_any k n Av cv cur W hrd hbc (by omega) hcv (he.next hB) (her.next hB) (hg.next hB)
    have HF0 := HFM.out cur
    rw [← hRE] at GT0 HF0
    have GT := Lib.hid GT0
    have HF := Lib.hid HF0
    have d2 := z2.cell 0
    have hDl := (Array.getElem?_eq_some_iff.1 hK).1
    clear GT0 HF0 hRE hu hU HGE' HNO' HFM hS hxl
    dsimp only at GT HF
    go_wp2_with fail
    refine GT.out.mono ?_
    rintro e w6 ⟨hb6, v, rfl, hv⟩
    obtain ⟨A5, c5, rfl, hc5⟩ := hv.form
    have z0' := z0.next' hb6
    have z1' := z1.next' hb6
    have d8 := z0'.cell 0
    have f8 := z0'.frozen 0
    have d9 := z1'.cell 0
    have f9 := z1'.frozen 0
    have hB6 := hB.trans (hb6.mono hB.size)
    have hK6 : w6.heap[D]? = some (.deferred (some [])) := (hb6.block D hDl).trans hK
    have hrv := hv.rd
    rcases HF.out with h0 | h0
    · subst h0
      go_wp2
      obtain ⟨k0, k1⟩ := two_cells z0' z1' (.slice A5 R1.length c5) (.int .i64 0)
      have hKz : ((w6.setCell ⟨w.heap.size, 0, none⟩ (.slice A5 R1.length c5)).setCell ⟨w.heap.size + 1, 0, none⟩ (.int .i64 0)).heap[D]? = some (.deferred (some [])) := ((KeepsOthers.setCell w6 _ _).trans (KeepsOthers.setCell _ _ _)).same D _ hK6 rfl
      have hb := two_below hB6 (.slice A5 R1.length c5) (.int .i64 0)
      have hrow : ∀ r, some D = some r → ∃ o : Obj, ((w6.setCell ⟨w.heap.size, 0, none⟩ (.slice A5 R1.length c5)).setCell ⟨w.heap.size + 1, 0, none⟩ (.int .i64 0)).heap[r]? = some o ∧ o.isCells = false := fun r e => by cases e; exact ⟨_, hKz, rfl⟩
      have hgr := grownBy_putObj' ((w6.setCell ⟨w.heap.size, 0, none⟩ (.slice A5 R1.length c5)).setCell ⟨w.heap.size + 1, 0, none⟩ (.int .i64 0)) D (.deferred none)
      obtain c0 := (bk_own k0 hgr hrow).cell 0
      obtain c1 := (bk_own k1 hgr hrow).cell 0
      refine ⟨by simp, .inl ⟨_, _, rfl, run_takeDeferred hKz, ?_⟩⟩
      refine ⟨.tuple #[.slice A5 R1.length c5, .int .i64 0], by simp [results, Tryz.results27, go_sem, c0, c1], hb.grown hgr hb.size (fun r e => by cases e; have := B5.size; omega), _, rfl, ?_⟩
      have e9 : (w6.setCell ⟨w.heap.size, 0, none⟩ (.slice A5 R1.length c5)).cell? ⟨w.heap.size + 1, 0, none⟩ = some (.int .i64 0) := (World.cell?_setCell_other w6 ⟨w.heap.size, 0, none⟩ ⟨w.heap.size + 1, 0, none⟩ (.slice A5 R1.length c5) (fun e => by injection e with e1; omega)).trans d9
      have hr2 := rd_put_far (rd_put_far (c := .slice none 0 0) hrv d8 (strs_not fun _ e => by cases e) (.slice A5 R1.length c5)) e9 (strs_not fun _ e => by cases e) (.int .i64 0)
      exact ⟨A5, c5, rfl, hc5, rd_own (by have e8 : ((w6.setCell ⟨w.heap.size, 0, none⟩ (.slice A5 R1.length c5)).setCell ⟨w.heap.size + 1, 0, none⟩ (.int .i64 0)).heap.size = w6.heap.size := by simp [World.setCell]
                                          rw [e8]; exact hr2) hgr hrow⟩
    · injection h0 with h1 h2
      subst h1
      subst h2
      go_wp2
      obtain ⟨k0, k1⟩ := two_cells z0' z1' (.slice none 0 0) (.int .i64 5)
      have hKz : ((w6.setCell ⟨w.heap.size, 0, none⟩ (.slice none 0 0)).setCell ⟨w.heap.size + 1, 0, none⟩ (.int .i64 5)).heap[D]? = some (.deferred (some [])) := ((KeepsOthers.setCell w6 _ _).trans (KeepsOthers.setCell _ _ _)).same D _ hK6 rfl
      have hb := two_below hB6 (.slice none 0 0) (.int .i64 5)
      have hrow : ∀ r, some D = some r → ∃ o : Obj, ((w6.setCell ⟨w.heap.size, 0, none⟩ (.slice none 0 0)).setCell ⟨w.heap.size + 1, 0, none⟩ (.int .i64 5)).heap[r]? = some o ∧ o.isCells = false := fun r e => by cases e; exact ⟨_, hKz, rfl⟩
      have hgr := grownBy_putObj' ((w6.setCell ⟨w.heap.size, 0, none⟩ (.slice none 0 0)).setCell ⟨w.heap.size + 1, 0, none⟩ (.int .i64 5)) D (.deferred none)
      obtain c0 := (bk_own k0 hgr hrow).cell 0
      obtain c1 := (bk_own k1 hgr hrow).cell 0
      refine ⟨by simp, .inl ⟨_, _, rfl, run_takeDeferred hKz, ?_⟩⟩
      refine ⟨.tuple #[.slice none 0 0, .int .i64 5], by simp [results, Tryz.results27, go_sem, c0, c1], hb.grown hgr hb.size (fun r e => by cases e; have := B5.size; omega), _, rfl, ?_⟩
      exact IsT.nil _ _
  case stop =>
    rintro D c pre W hD hSp ⟨rfl, hU, z0, z1, hB⟩ hK
    have hu := hU.out
    rw [pre_rev (0, 0, ⟨#[]⟩) hSp] at hu
    have hun : unB C.reverse b0 = none := by
      rw [← List.take_append_drop pre.length C.reverse]
      exact unB_app_none hu
    have hRE := HNO'.out hun
    injection hRE with h1 h2
    subst h1
    subst h2
    gi_wp2
    have k0 := z0
    have k1 := z1
    have hKz := hK
    have hb := hB
    have hrow : ∀ r, some D = some r → ∃ o : Obj, W.heap[r]? = some o ∧ o.isCells = false := fun r e => by cases e; exact ⟨_, hKz, rfl⟩
    have hgr := grownBy_putObj' W D (.deferred none)
    obtain c0 := (bk_own k0 hgr hrow).cell 0
    obtain c1 := (bk_own k1 hgr hrow).cell 0
    refine ⟨by simp, .inl ⟨_, _, rfl, run_takeDeferred hKz, ?_⟩⟩
    refine ⟨.tuple #[.slice none 0 0, .int .i64 5], by simp [results, Tryz.results27, go_sem, c0, c1], hb.grown hgr hb.size (fun r e => by cases e; have := B5.size; omega), _, rfl, ?_⟩
    exact IsT.nil _ _
end Go.Proofs.YtpkhgdnkkdhlcaaGreatDoor

