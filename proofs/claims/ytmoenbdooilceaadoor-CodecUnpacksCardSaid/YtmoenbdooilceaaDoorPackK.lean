/-
  Walk: codec.Pack.
-/
import Derived.Test.YtmoenbdooilceaaDoorPutE
import Derived.Test.YtmoenbdooilceaaDoorShelf
import Derived.TacticsIn
import Derived.RegionIn
import Derived.Shelf.RegionOpen
namespace Go.Proofs.YtmoenbdooilceaaDoor
open Go.RowKit Go.Shelf By
attribute [local go_sem] Oper.semAt_some

theorem opIn_append_own {F : Fence} {n : Nat} {P : Program} (w : World) {o : Oper} {a : Act} {K : Act → World → Prop} {Q : Exit → Act → World → Prop}
    (s x : Operand) (t : TypeId) (hop : o.op = Op.call { callee := Callee.builtin Builtin.append, args := #[s, x], argTypes := #[t, t] }) (v u v' : Value) (w' : World) (hs : a.eval s = v) (hx : a.eval x = u)
    (hrun : (Builtin.append_ #[t, t] o.type #[v, u]).run P w = .ok v' w') (hK : K (a.put o.dst v') w') : Oper.wpIn F n P o a w K Q := by
  unfold Oper.wpIn
  refine ⟨?_, ?_⟩
  · simp [Oper.about, hop, resolve, Target.leads, Sem.run_pure]
  · rw [Oper.semAt_plain F _ _ (by rw [hop]; intro c hc'; cases hc')]
    simp [execOp, hop, resolve, invoke, builtin, hs, hx, hrun, Result.andThen]
    exact hK
theorem ys_gl {k : Nat} {ys : List { j : Nat // j < k }} (h : ys.map (·.1) = List.range k) (l : List Nat) (n : Nat) : ys.map (fun x => G l n x.1) = gl l n k := by
  show _ = (List.range k).map _
  rw [← h, List.map_map]; rfl

set_option maxRecDepth 100000 in
set_option maxHeartbeats 8000000 in
theorem pack_any (A : Option Addr) (c n : Nat) (l : List Nat) (w : World) (h1 : 1 ≤ n) (h8 : n ≤ 8) (hl : Bytes l) (hc : l.length ≤ c) (hm : l.length ≤ 1048576) (h : Rd w w.heap.size A (ints .u8 l)) :
    Calls Tryd.prog 27 #[.slice A l.length c, .int .i64 n] w fun e w' => Below w.heap.size w w' ∧ ∃ v, e = .returned (.tuple #[v, .int .i64 0]) ∧ IsL w' w'.heap.size .u8 v (packL l n) := by
  have hg : grE n l.length = 0 := by unfold grE; rw [if_neg (by omega), if_neg (by omega)]
  have hb := gl_bound hl h8
  have hlen := gl_len l n (l.length / n)
  have hkl := Nat.div_mul_le_self l.length n
  have hkn : l.length / n ≤ l.length := Nat.div_le_self _ _
  obtain ⟨i8, hi8, hz80, hz81, hz82⟩ := info_parts Tryd.u8_info
  obtain ⟨i0, hi0, hz0, hz1, hz2⟩ := info_parts Tryd.u64_info
  have HP : Hid (packB (G l n) (l.length / n) n (rest l n) = packL l n) := rfl
  have HR : Hid (rest l n = l.drop (l.length / n * n)) := rfl
  have d1 : IntKind.i64.wrap ((l.length : Int) / (n : Int)) = ((l.length / n : Nat) : Int) := by rw [← Int.natCast_ediv]; exact IntWalk.i64_in _ (by omega)
  have d2 : IntKind.i64.wrap (((l.length / n : Nat) : Int) * (n : Int)) = ((l.length / n * n : Nat) : Int) := by rw [← Int.natCast_mul]; exact IntWalk.i64_in _ (by omega)
  generalize hk : l.length / n = k at *
  generalize hL : k * n = L at *
  have HL := Lib.hid hL
  have HK := Lib.hid hk
  clear hL hk
  refine (callsIn_wide (n := 3)).1 ?_
  refine callsIn_of_wp_marks Tryd.func27 rfl trivial ?_ rfl
  simp only [Tryd.ntmps27, List.size_toArray, List.length_cons, List.length_nil, Nat.reduceAdd, Nat.reduceSub, Array.replicate_succ, Array.replicate_zero, List.push_toArray, List.append_toArray, List.nil_append, List.cons_append]
  refine wpIn_wide.2 ?_
  go_wp2_with fail
  refine (grouped_any _ _ _ _ _ (by omega)).mono ?_
  rintro e w1 ⟨rfl, rfl⟩
  rw [hg]
  clear hg
  have q1 : ¬ n = 0 := by omega
  go_wp2_with fail
  refine (chunk_any A L c n _ h1 h8).mono ?_
  rintro e w1 ⟨rfl, hw1⟩
  have b0 : Boxed w1 w.heap.size 45 (.slice none 0 0) := by rw [hw1]; exact ((Boxed.new w _ _).alloc _).alloc _
  have b1 : Boxed w1 (w.heap.size + 1) 22 (.slice A L c) := by
    have := (Boxed.new (w.alloc (.cells #[.slice none 0 0] 45)) 22 (.slice A L c)).alloc (.cells #[.int .i64 n] 3)
    rw [World.size_alloc] at this
    rw [hw1]; exact this
  have b2 : Boxed w1 (w.heap.size + 2) 3 (.int .i64 n) := by
    have := Boxed.new ((w.alloc (.cells #[.slice none 0 0] 45)).alloc (.cells #[.slice A L c] 22)) 3 (.int .i64 n)
    rw [World.size_alloc, World.size_alloc] at this
    rw [hw1]; exact this
  have hB1 : Below w.heap.size w w1 := by rw [hw1]; exact (((Below.refl _ w).alloc (Nat.le_refl _) _).alloc (by simp) _).alloc (by simp; omega) _
  have hs1 : w1.heap.size = w.heap.size + 3 := by rw [hw1]; simp
  clear hw1
  have hA : 0 < k → ∃ ad, A = some ad := fun hk => by
    have e1 := HL.out
    have : 1 * 1 ≤ k * n := Nat.mul_le_mul hk h1
    obtain ⟨ad, e, _⟩ := h.int (j := 0) (by omega)
    exact ⟨ad, e⟩
  have hmx : Tryd.prog.follows .mixedOrders = true := by kernel_rfl
  go_wp2
  refine (wpIn_wide (n := 3)).1 ?_
  refine wpIn_rangeFunc_ownF (F := Fence.wide) (n := 3) rfl (by omega) (gf := 61) (lb := #[.pointer (some ⟨w.heap.size + 1, 0, none⟩), .pointer (some ⟨w.heap.size + 2, 0, none⟩)]) rfl trivial (enters_of Tryd.func61 (by kernel_rfl) rfl)
    (chunk_stops (3 - 1) (by omega) (w.heap.size + 1) (w.heap.size + 2) L c k n A hA HL.out.symm h1 h8 (by omega) (by omega) w1 (by omega) (by omega) b1.cell b2.cell) Keep2.trans
    (fun W b o o' hb ho _ _ => ⟨World.cell?_of_block ((grownBy_putObj' W b o').block (w.heap.size + 1) (by have := (Array.getElem?_eq_some_iff.1 ho).1; omega) (by intro e; cases e; omega)), World.cell?_of_block ((grownBy_putObj' W b o').block (w.heap.size + 2) (by have := (Array.getElem?_eq_some_iff.1 ho).1; omega) (by intro e; cases e; omega))⟩)
    (Below.refl _ _) (fun _ => rfl)
    (fun pre W => ((∃ v, Boxed W w.heap.size 45 v ∧ W.ownsRow w.heap.size 40 1 v pre.length (ints .u64 (pre.map fun x => G l n x.1)) ∧ True) ∧ Below w.heap.size w W) ∧ (Boxed W (w.heap.size + 1) 22 (.slice A L c) ∧ Boxed W (w.heap.size + 2) 3 (.int .i64 n)))
    (fun _ _ _ => False)
    (OwnFrom.and (OwnFrom.and (Own.from (holdsRow_own w.heap.size w.heap.size 45 40 1 (fun (pre : List { j : Nat // j < k }) => pre.length) (fun (pre : List { j : Nat // j < k }) => ints .u64 (pre.map fun x => G l n x.1)) (fun _ _ => True)) _) (ownFrom_below (Nat.le_refl _) (by omega))) (OwnFrom.and (Own.from (boxed_own _ _ fun _ => .slice A L c) _) (Own.from (boxed_own _ _ fun _ => .int .i64 n) _)))
    (fun _ _ _ _ _ hs _ _ => hs)
    ⟨⟨⟨_, b0, World.ownsRow_nil _ _ _ _, trivial⟩, hB1⟩, b1, b2⟩
    (fun x => { tmps := #[.slice A l.length c, .int .i64 n, undef, undef, .slice none 0 0, .int .i64 0, .int .i64 0, .pointer (some ⟨w.heap.size, 0, none⟩), .slice (A.map (·.add (x.1 * n))) n n, undef, undef, undef, undef, undef, undef, undef, .slice A l.length c, .int .i64 n, .int .i64 0, .int .i64 0, .bool false, undef, .slice A l.length c, .slice A l.length c, .int .i64 l.length, .int .i64 n, .int .i64 k, .int .i64 n, .int .i64 L, .slice A L c, .int .i64 n, .func (.func 61) #[] #[.pointer (some ⟨w.heap.size + 1, 0, none⟩), .pointer (some ⟨w.heap.size + 2, 0, none⟩)], .slice (A.map (·.add (x.1 * n))) n n, undef, undef, undef, undef, undef, undef, undef, undef, undef, undef, undef, undef, undef, undef, undef, undef, undef, undef, undef, undef, undef, undef, undef, undef, undef, undef, undef, undef, undef, undef, undef, undef, undef, undef, undef, undef, undef, undef, undef, undef, undef, undef, undef, undef, undef, undef, undef, undef, undef, undef, undef, undef, undef, undef, undef, undef, undef, undef, undef, undef, undef, undef, undef, undef, undef, undef, undef, undef, undef, undef], defers := [] }) ?assign ?body ?done ?stop
  case assign =>
    intro l' x W K hK
    unfold encK
    gi_wp2
    exact hK
  case body =>
    rintro l' pre x W ⟨⟨⟨v, hv, hrow, _⟩, hB⟩, hb1, hb2⟩ hlt
    obtain ⟨ad, rfl⟩ := hA (by have := x.2; omega)
    have hc0 := hv.cell
    have hRd : Rd W W.heap.size (some (ad.add (x.1 * n))) (ints .u8 ((l.drop (x.1 * n)).take n)) := ((h.below hB).sub (x.1 * n) n).more hB.size
    have hGl : ((l.drop (x.1 * n)).take n).length = n := by
      have e1 : (x.1 + 1) * n ≤ k * n := Nat.mul_le_mul_right _ x.2
      rw [Nat.succ_mul] at e1
      have e2 := HL.out
      rw [List.length_take, List.length_drop]; omega
    have hnum := number_any (some (ad.add (x.1 * n))) n n ((l.drop (x.1 * n)).take n) W.drew hGl h8 ((hl.drop _).take _) hRd.drew
    rw [show gv ((l.drop (x.1 * n)).take n) = G l n x.1 from rfl] at hnum
    have hvD : Boxed W.drew w.heap.size 45 v := hv
    have hrowD : W.drew.ownsRow w.heap.size 40 1 v pre.length (ints .u64 (pre.map fun x => G l n x.1)) := hrow
    have hBD : Below w.heap.size w W.drew := hB.drew
    have hd : 1 ≤ 3 - 1 - 1 := by omega
    have hG64 : G l n x.1 < 2 ^ 64 := G_lt64 hl h8 x.1
    obtain ⟨v', w9, hap, hown', hgrow, _⟩ := run_append_own (P := Tryd.prog) (W.drew.alloc (.cells #[.int .u64 ((G l n x.1 : Nat) : Int)] 40)) w.heap.size 45 45 40 i0 (.int .u64 0) 1 8 Tryd.underlying45 hi0 hz0 hz1 hz2 rfl (by decide) v pre.length (ints .u64 (pre.map fun x => G l n x.1)) (hrowD.alloc _) ⟨W.heap.size, 0, none⟩ 1 1 [.int .u64 ((G l n x.1 : Nat) : Int)] rfl (cell_one_new _ _ _) (by simp [Value.oneCell']) (by unfold maxLen; omega) (by omega) (by have := hB.size; rw [World.size_alloc]; show _ ≤ W.heap.size + 1; omega)
    obtain ⟨g', cap', rfl⟩ := ownsRow_succ hown'
    obtain ⟨hv1, hv2, hr2, hk2, hb9⟩ := hvD.appended (by decide) hrowD hBD.size (Nat.le_refl _) hown' hgrow
    have hc1 := hv1.cell
    have hf1 := hv1.frozen
    gi_wp2
    have hc0D := (hv.alloc (.cells #[.int .u64 ((G l n x.1 : Nat) : Int)] 40)).cell
    have HOK : Hid (KeepsOthers W (w9.setCell ⟨w.heap.size, 0, none⟩ (.slice (some ⟨g', 0, none⟩) (pre.length + 1) cap')) ∧ Keep2 (w.heap.size + 1) (w.heap.size + 2) W (w9.setCell ⟨w.heap.size, 0, none⟩ (.slice (some ⟨g', 0, none⟩) (pre.length + 1) cap')) ∧
      ((∃ v, Boxed (w9.setCell ⟨w.heap.size, 0, none⟩ (.slice (some ⟨g', 0, none⟩) (pre.length + 1) cap')) w.heap.size 45 v ∧ (w9.setCell ⟨w.heap.size, 0, none⟩ (.slice (some ⟨g', 0, none⟩) (pre.length + 1) cap')).ownsRow w.heap.size 40 1 v (pre ++ [x]).length (ints .u64 ((pre ++ [x]).map fun x => G l n x.1)) ∧ True) ∧ Below w.heap.size w (w9.setCell ⟨w.heap.size, 0, none⟩ (.slice (some ⟨g', 0, none⟩) (pre.length + 1) cap'))) ∧
      (Boxed (w9.setCell ⟨w.heap.size, 0, none⟩ (.slice (some ⟨g', 0, none⟩) (pre.length + 1) cap')) (w.heap.size + 1) 22 (.slice (some ad) L c) ∧ Boxed (w9.setCell ⟨w.heap.size, 0, none⟩ (.slice (some ⟨g', 0, none⟩) (pre.length + 1) cap')) (w.heap.size + 2) 3 (.int .i64 n))) := by
      have hb1D : Boxed W.drew (w.heap.size + 1) 22 (.slice (some ad) L c) := hb1
      have hb2D : Boxed W.drew (w.heap.size + 2) 3 (.int .i64 n) := hb2
      have k1 := (((hb1D.alloc (.cells #[.int .u64 ((G l n x.1 : Nat) : Int)] 40)).kept hgrow (hb1D.not_row (by decide) hrowD)).other (B' := w.heap.size) (by omega) (.slice (some ⟨g', 0, none⟩) (pre.length + 1) cap'))
      have k2 := (((hb2D.alloc (.cells #[.int .u64 ((G l n x.1 : Nat) : Int)] 40)).kept hgrow (hb2D.not_row (by decide) hrowD)).other (B' := w.heap.size) (by omega) (.slice (some ⟨g', 0, none⟩) (pre.length + 1) cap'))
      refine ⟨(KeepsOthers.drew W).trans hk2, ⟨k1.cell.trans hb1.cell.symm, k2.cell.trans hb2.cell.symm⟩, ⟨⟨_, hv2, ?_, trivial⟩, hBD.trans hb9⟩, k1, k2⟩
      rw [List.length_append, List.map_append, ints_append]
      exact hr2
    refine wpIn_region_any hmx ?_
    change wpAnyIn _ _ _ _ _ _ _ _ _ (World.drew _)
    refine wpAnyIn_ready (rs := [0, 1]) (by kernel_rfl) (by simp) ?_
    refine AllReadyIn.cons rfl (fun K hK => ?_) (AllReadyIn.cons rfl (fun K hK => ?_) AllReadyIn.nil)
    · go_simp
      refine hK _ _ ?_
      clear hK K
      refine wpAnyIn_ready (rs := [1]) (by kernel_rfl) (by simp) ?_
      refine AllReadyIn.cons rfl (fun K hK => ?_) AllReadyIn.nil
      go_simp
      refine hK _ _ ?_
      clear hK K
      refine wpAnyIn_ready (rs := [2]) (by kernel_rfl) (by simp) ?_
      refine AllReadyIn.cons rfl (fun K hK => ?_) AllReadyIn.nil
      go_simp
      gi_wp2_with (refine ⟨trivial, ?_⟩; gi_at_call 33; refine (CallsIn.inRound l' (callsIn_wide.2 hnum)).mono ?_; rintro e w8 ⟨rfl, rfl⟩)
      refine wpAnyIn_ready (rs := [3]) (by kernel_rfl) (by simp) ?_
      refine AllReadyIn.cons rfl (fun K hK => ?_) AllReadyIn.nil
      go_simp
      refine hK _ _ ?_
      clear hK K
      refine wpAnyIn_ready (rs := [4]) (by kernel_rfl) (by simp) ?_
      refine AllReadyIn.cons rfl (fun K hK => ?_) AllReadyIn.nil
      rw [if_pos (by rfl)]
      refine opIn_append_own _ _ _ 45 rfl _ _ _ _ rfl rfl hap ?_
      refine hK _ _ ?_
      clear hK K
      refine wpAnyIn_ready (rs := [5]) (by kernel_rfl) (by simp) ?_
      refine AllReadyIn.cons rfl (fun K hK => ?_) AllReadyIn.nil
      go_simp
      refine hK _ _ ?_
      clear hK K
      refine wpAnyIn_done (by kernel_rfl) ?_ _
      gi_wp2
      exact HOK
    · go_simp
      refine hK _ _ ?_
      clear hK K
      refine wpAnyIn_ready (rs := [0, 2]) (by kernel_rfl) (by simp) ?_
      refine AllReadyIn.cons rfl (fun K hK => ?_) (AllReadyIn.cons rfl (fun K hK => ?_) AllReadyIn.nil)
      · go_simp
        refine hK _ _ ?_
        clear hK K
        refine wpAnyIn_ready (rs := [2]) (by kernel_rfl) (by simp) ?_
        refine AllReadyIn.cons rfl (fun K hK => ?_) AllReadyIn.nil
        go_simp
        gi_wp2_with (refine ⟨trivial, ?_⟩; gi_at_call 33; refine (CallsIn.inRound l' (callsIn_wide.2 hnum)).mono ?_; rintro e w8 ⟨rfl, rfl⟩)
        refine wpAnyIn_ready (rs := [3]) (by kernel_rfl) (by simp) ?_
        refine AllReadyIn.cons rfl (fun K hK => ?_) AllReadyIn.nil
        go_simp
        refine hK _ _ ?_
        clear hK K
        refine wpAnyIn_ready (rs := [4]) (by kernel_rfl) (by simp) ?_
        refine AllReadyIn.cons rfl (fun K hK => ?_) AllReadyIn.nil
        rw [if_pos (by rfl)]
        refine opIn_append_own _ _ _ 45 rfl _ _ _ _ rfl rfl hap ?_
        refine hK _ _ ?_
        clear hK K
        refine wpAnyIn_ready (rs := [5]) (by kernel_rfl) (by simp) ?_
        refine AllReadyIn.cons rfl (fun K hK => ?_) AllReadyIn.nil
        go_simp
        refine hK _ _ ?_
        clear hK K
        refine wpAnyIn_done (by kernel_rfl) ?_ _
        gi_wp2
        exact HOK
      · go_simp
        gi_wp2_with (refine ⟨trivial, ?_⟩; gi_at_call 33; refine (CallsIn.inRound l' (callsIn_wide.2 hnum)).mono ?_; rintro e w8 ⟨rfl, rfl⟩)
        refine wpAnyIn_ready (rs := [0, 3]) (by kernel_rfl) (by simp) ?_
        refine AllReadyIn.cons rfl (fun K hK => ?_) (AllReadyIn.cons rfl (fun K hK => ?_) AllReadyIn.nil)
        · go_simp
          refine hK _ _ ?_
          clear hK K
          refine wpAnyIn_ready (rs := [3]) (by kernel_rfl) (by simp) ?_
          refine AllReadyIn.cons rfl (fun K hK => ?_) AllReadyIn.nil
          go_simp
          refine hK _ _ ?_
          clear hK K
          refine wpAnyIn_ready (rs := [4]) (by kernel_rfl) (by simp) ?_
          refine AllReadyIn.cons rfl (fun K hK => ?_) AllReadyIn.nil
          rw [if_pos (by rfl)]
          refine opIn_append_own _ _ _ 45 rfl _ _ _ _ rfl rfl hap ?_
          refine hK _ _ ?_
          clear hK K
          refine wpAnyIn_ready (rs := [5]) (by kernel_rfl) (by simp) ?_
          refine AllReadyIn.cons rfl (fun K hK => ?_) AllReadyIn.nil
          go_simp
          refine hK _ _ ?_
          clear hK K
          refine wpAnyIn_done (by kernel_rfl) ?_ _
          gi_wp2
          exact HOK
        · go_simp
          refine hK _ _ ?_
          clear hK K
          refine wpAnyIn_ready (rs := [0]) (by kernel_rfl) (by simp) ?_
          refine AllReadyIn.cons rfl (fun K hK => ?_) AllReadyIn.nil
          go_simp
          refine hK _ _ ?_
          clear hK K
          refine wpAnyIn_ready (rs := [4]) (by kernel_rfl) (by simp) ?_
          refine AllReadyIn.cons rfl (fun K hK => ?_) AllReadyIn.nil
          rw [if_pos (by rfl)]
          refine opIn_append_own _ _ _ 45 rfl _ _ _ _ rfl rfl hap ?_
          refine hK _ _ ?_
          clear hK K
          refine wpAnyIn_ready (rs := [5]) (by kernel_rfl) (by simp) ?_
          refine AllReadyIn.cons rfl (fun K hK => ?_) AllReadyIn.nil
          go_simp
          refine hK _ _ ?_
          clear hK K
          refine wpAnyIn_done (by kernel_rfl) ?_ _
          gi_wp2
          exact HOK
  case done =>
    rintro D ys W hD hys ⟨⟨⟨v, hv, hrow, _⟩, hB⟩, _, _⟩ hK
    rw [ys_gl hys] at hrow
    have hyl : ys.length = k := by have := congrArg List.length hys; simpa using this
    rw [hyl] at hrow
    clear hys hyl
    obtain ⟨A', c', rfl, hc'⟩ := own_slice hrow
    have hrd := Rd.of_own hrow
    clear hrow b0 b1 b2
    have hsW : w.heap.size < W.heap.size := hv.lt
    have hvA := hv.alloc (.cells (ints .u8 [0, 0, 0, 0]).toArray 5)
    have hcA := hvA.cell
    have hmk4 : ∀ w, (Instr.makeSlice 22 (.int .i64 4) (.int .i64 4)).run Tryd.prog w = .ok (.slice (some ⟨w.heap.size, 0, none⟩) 4 4) (w.alloc (.cells (ints .u8 [0, 0, 0, 0]).toArray 5)) := make_ints (P := Tryd.prog) 22 5 i8 .u8 Tryd.underlying22 hi8 hz80 hz81 (by omega) .i64 .i64 4 4 rfl (by omega)
    have rE0 : RowE (W.alloc (.cells (ints .u8 [0, 0, 0, 0]).toArray 5)) W.heap.size 5 .u8 [0, 0, 0, 0] := Bk.new _ _ _
    have hBA : Below W.heap.size W (W.alloc (.cells (ints .u8 [0, 0, 0, 0]).toArray 5)) := (Below.refl _ _).alloc (Nat.le_refl _) _
    have hRl := h.cut (k := L) (cap := c) (by rw [ints_length]; exact hc)
    rw [← ints_drop] at hRl
    have hkm : k ≤ 1048576 := by omega
    go_wp2_with fail
    refine (pute_any W.heap.size 0 4 4 k [0, 0, 0, 0] _ (by simp) (by omega) (by omega) rE0).mono ?_
    rintro e w2 ⟨⟨u2, rfl⟩, hg2, hs2, hr2⟩
    have hr2' : RowE w2 W.heap.size 5 .u8 (gb 4 k) := hr2
    have hv2 := hvA.kept hg2 (by intro e; injection e with e; omega)
    have hc2 := hv2.cell
    have hB2 : Below W.heap.size W w2 := below_of_grown hBA hg2 (by simp) (Nat.le_refl _)
    have ho2 : w2.ownsRow W.heap.size 5 1 (.slice (some ⟨W.heap.size, 0, none⟩) 4 4) 4 (ints .u8 (gb 4 k)) := by
      have := hr2'.own (base := W.heap.size) (Nat.le_refl _) (by rw [gb_len]; unfold maxLen; omega)
      rwa [gb_len] at this
    have HS2 := Lib.hid hs2
    clear hmk4 rE0 hBA hvA hcA hr2 hr2' hg2 hs2
    have hDW : D < W.heap.size := (Array.getElem?_eq_some_iff.1 hK).1
    by_cases h0 : k = 0
    · subst h0
      have hL0 : L = 0 := by have := HL.out; omega
      have hR2 := (h.below (hB.trans (hB2.mono hB.size))).more (Nat.le_trans hB.size hB2.size)
      have HQ : Hid (packL l n = gb 4 0 ++ l) := by
        show _ = _
        rw [← HP.out, packB_zero, HR.out, hL0, List.drop_zero]
      go_wp2_with (at_builtin; refine wpL_append _ rfl (.tmp 93) (.tmp 101) _ rfl W.heap.size 5 i8 _ 1 1 Tryd.underlying22 hi8 hz80 hz81 hz82 rfl (by omega) _ 4 (ints .u8 (gb 4 0)) rfl ho2 A l.length c (ints .u8 l) rfl (by rw [ints_length, Nat.mul_one]) hR2 (ints_one _ _) (by unfold maxLen; omega) (by omega) hB2.size ?_; intro v3 w3 hown3 hg3 hat3)
      have hB3 : Below W.heap.size W w3 := below_app hB2 hg3 hB2.size ho2 (Nat.le_refl _)
      have hKz : w3.heap[D]? = some (.deferred (some [])) := (hB3.block D hDW).trans hK
      have hBz : Below w.heap.size w w3 := hB.trans (hB3.mono hB.size)
      rw [← ints_append] at hown3
      have HZ : Hid (IsL (w3.putObj D (.deferred none)) (w3.putObj D (.deferred none)).heap.size .u8 v3 (packL l n)) := by
        show IsL _ _ _ _ _
        rw [HQ.out]
        exact IsL.of_own' (ownsRow_putObj hown3 _ hKz rfl) (by rw [List.length_append, gb_len])
      clear hown3 hg3 hat3
      go_wp2
      refine ⟨by simp, .inl ⟨_, _, rfl, run_takeDeferred hKz, ?_⟩⟩
      exact ⟨_, results_tmp2 rfl _ _ _, hBz.trans (belowK_b (w := w) (Nat.le_refl _) _ D _ _ (by omega) hKz rfl rfl), _, rfl, HZ.out⟩
    · have hrd2 : Rd w2 w2.heap.size A' (ints .u64 (gl l n k)) := (hrd.below hB2).more hB2.size
      have HPe : Hid (packB (el (gl l n k)) k n (rest l n) = packL l n) := by
        show _ = _
        rw [← HP.out]
        exact packB_congr fun i hi => el_gl l n hi
      generalize gl l n k = ds at *
      go_wp2_with fail
      refine (min_any A' c' k ds w2 hlen (by omega) (by omega) hrd2).mono ?_
      rintro e w5 ⟨rfl, rfl⟩
      obtain ⟨m, hmm⟩ : ∃ m, m = lo (el ds) k := ⟨_, rfl⟩
      have HM := Lib.hid hmm
      rw [← hmm]
      clear hmm
      go_wp2_with fail
      refine (max_any A' c' k ds _ hlen (by omega) (by omega) hrd2).mono ?_
      rintro e w5 ⟨rfl, rfl⟩
      obtain ⟨M, hMM⟩ : ∃ M, M = hi (el ds) k := ⟨_, rfl⟩
      have HMM := Lib.hid hMM
      rw [← hMM]
      clear hMM
      have hmM : m ≤ M := by rw [HM.out, HMM.out]; exact Nat.le_trans (lo_le (el ds) (i := 0) (by omega)) (le_hi (el ds) (by omega))
      have hM64 : M < 2 ^ 64 := by rw [HMM.out]; exact hi_lt (by omega) (fun i _ => hb i)
      have s1 : IntKind.u64.wrap ((M : Int) - (m : Int)) = ((M - m : Nat) : Int) := by rw [show (M : Int) - m = ((M - m : Nat) : Int) by omega]; exact wrap_u64 (by omega)
      go_wp2_with fail
      refine (Tryd.bits_Len64 ((M - m : Nat) : Int) _ (by omega) (by omega)).mono ?_
      rintro e w5 ⟨rfl, hw5⟩
      rw [hw5, Int.toNat_natCast, len64_bl (by omega)]
      clear hw5
      obtain ⟨d, hd⟩ : ∃ d, d = bl (M - m) := ⟨_, rfl⟩
      have hd64 : d ≤ 64 := by rw [hd]; exact bl_le.2 (by omega)
      have HW : Hid (d = packW (el ds) k) := by show _ = _; rw [hd, HM.out, HMM.out]; rfl
      rw [← hd]
      clear hd s1
      have hmkn := make_ints (P := Tryd.prog) 22 5 i8 .u8 Tryd.underlying22 hi8 hz80 hz81 (by omega) .i64 .i64 n (n : Int) rfl (by omega)
      go_wp2_with fail
      refine (put_any w2.heap.size 0 n n m (List.replicate n 0) _ (by simp) (by omega) (by omega) (Row.of_bk (Bk.new _ _ _))).mono ?_
      rintro e w3 ⟨⟨u3, rfl⟩, hg3, hs3, hr3⟩
      have hB3 : Below W.heap.size W w3 := below_of_grown (hB2.alloc hB2.size _) hg3 (by have := hB2.size; simp; omega) hB2.size
      have ho3 := (ho2.alloc (.cells (ints .u8 (List.replicate n 0)).toArray 5)).kept hg3 (.inr (by intro e; have e3 : some W.heap.size = some w2.heap.size := e; injection e3 with e3; have e2 := HS2.out; rw [World.size_alloc] at e2; omega))
      have hr3' : Rd w3 w3.heap.size (some ⟨w2.heap.size, 0, none⟩) (ints .u8 (gb n m)) := by
        have := hr3.all
        rw [List.take_zero, List.nil_append, Nat.zero_add, List.drop_eq_nil_of_le (by simp), List.append_nil] at this
        exact this
      have HL2 := Lib.hid (gb_len n m)
      clear hmkn hr3 hg3 hs3
      obtain ⟨y, hy⟩ : ∃ y, y = k * d := ⟨_, rfl⟩
      have hyb : y ≤ 67108864 := by rw [hy]; exact Nat.mul_le_mul hkm hd64
      obtain ⟨S, hS⟩ : ∃ S, S = (y + 7) / 8 := ⟨_, rfl⟩
      have hSb : y ≤ 8 * S ∧ S ≤ 8388609 := by omega
      have m0 : IntKind.i64.wrap ((k : Int) * (d : Int)) = (y : Int) := by rw [← Int.natCast_mul, ← hy]; exact IntWalk.i64_in _ (by omega)
      have m2 : ((y : Int) + 7) / 8 = (S : Int) := by omega
      have hmk := make_ints (P := Tryd.prog) 22 5 i8 .u8 Tryd.underlying22 hi8 hz80 hz81 (by omega) .i64 .i64 S (S : Int) rfl (by omega)
      have HY := Lib.hid hy
      have HS := Lib.hid hS
      clear hy hS
      have s3 : IntKind.u8.wrap (d : Int) = (d : Int) := wrap_u8 (by omega)
      go_wp2_with (at_builtin; first
        | (refine wpL_append _ rfl (.tmp 59) (.tmp 60) _ rfl W.heap.size 5 i8 _ 1 1 Tryd.underlying22 hi8 hz80 hz81 hz82 rfl (by omega) _ 4 (ints .u8 (gb 4 k)) rfl ho3 (some ⟨w2.heap.size, 0, none⟩) n n (ints .u8 (gb n m)) rfl (by rw [ints_length, HL2.out, Nat.mul_one]) hr3' (ints_one _ _) (by unfold maxLen; omega) (by omega) hB3.size ?_; intro v4 w4 hown4 hg4 hat4; obtain ⟨A4, c4, rfl, hc4⟩ := own_slice hown4; have hB4 : Below W.heap.size W w4 := below_app hB3 hg4 hB3.size ho3 (Nat.le_refl _); rw [← ints_append] at hown4; clear hg4 hat4 ho3)
        | (refine wpL_append _ rfl (.tmp 61) (.tmp 64) _ rfl W.heap.size 5 i8 _ 1 1 Tryd.underlying22 hi8 hz80 hz81 hz82 rfl (by omega) _ (4 + n) (ints .u8 (gb 4 k ++ gb n m)) rfl (hown4.alloc _) (some ⟨w4.heap.size, 0, none⟩) 1 1 [.int .u8 (d : Int)] rfl rfl (Rd.of_new w4 [.int .u8 (d : Int)] 5) (by intro u hu; simp at hu; subst hu; rfl) (by unfold maxLen; omega) (by omega) (by have := hB4.size; simp; omega) ?_; intro v5 w5 hown5 hg5 hat5; obtain ⟨A5, c5, rfl, hc5⟩ := own_slice hown5; have hB5 : Below W.heap.size W w5 := below_app (hB4.alloc hB4.size _) hg5 (by have := hB4.size; simp; omega) (hown4.alloc _) (Nat.le_refl _); have hO5 : w5.ownsRow W.heap.size 5 1 (.slice A5 (4 + n + 1) c5) (4 + n + 1) (ints .u8 (gb 4 k ++ gb n m ++ [d])) := (by rw [ints_append]; exact hown5); have hc5 := (hB5.cell (p := ⟨w.heap.size, 0, none⟩) hsW).trans hv.cell; have hc5a : ∀ o, (w5.alloc o).cell? ⟨w.heap.size, 0, none⟩ = some (.slice A' k c') := (fun o => (World.cell?_alloc_lt w5 o _ (Nat.lt_of_lt_of_le hsW hB5.size)).trans hc5); clear hg5 hat5 hown5 hown4))
      have hrow0 : Row (w5.alloc (.cells (ints .u8 (List.replicate S 0)).toArray 5)) w5.heap.size 5 .u8 (fld (fun i => el ds i - m) d S (0 * d)) := by
        rw [Nat.zero_mul]; exact Row.of_bk (Bk.new w5 5 (ints .u8 (List.replicate S 0)).toArray)
      have hb0 : Below w5.heap.size w5 (w5.alloc (.cells (ints .u8 (List.replicate S 0)).toArray 5)) := (Below.refl _ _).alloc (Nat.le_refl _) _
      have hL1 : 1 ≤ L := by
        have e1 := HL.out
        have : 1 * 1 ≤ k * n := Nat.mul_le_mul (by omega) h1
        omega
      clear hmk m0 m2 s3 hc5 hc5a hr3' hB3 hB4 hrd2
      go_loopw [75] (fun i wr => ∃ j : Nat, j ≤ k ∧ i = .int .i64 j ∧ Hid (Row wr w5.heap.size 5 .u8 (fld (fun i => el ds i - m) d S (j * d))) ∧ Below w5.heap.size w5 wr) (fun i _ => k - (intOf i).toNat)
      case atStart => exact ⟨0, Nat.zero_le _, rfl, hrow0, hb0⟩
      case round =>
        clear hrow0 hb0
        obtain ⟨j, hj, rfl, HRw, hBf⟩ := hrel
        by_cases hlt : j < k
        · have hBw2 := hB5.trans (hBf.mono hB5.size)
          obtain ⟨ad, rfl, hab, hcell⟩ := (hrd.below hBw2).int (j := j) (by rw [hlen]; exact hlt)
          have hjW : j * d + d ≤ y := by rw [HY.out, ← Nat.succ_mul]; exact Nat.mul_le_mul_right _ hlt
          have hxm : m ≤ ds.getD j 0 := by have := HM.out; rw [this]; exact lo_le (el ds) hlt
          have hx := hb j
          have HX : Hid (el ds j - m = ds.getD j 0 - m) := rfl
          rw [show el ds j = ds.getD j 0 from rfl] at hx
          have HNX : Hid (wrt (fld (fun i => el ds i - m) d S (j * d)) (el ds j - m) d (j * d) d = fld (fun i => el ds i - m) d S ((j + 1) * d)) := by
            show _ = _
            rw [Nat.succ_mul]
            exact fld_wrt (fun i => el ds i - m) d S j (Nat.le_refl _)
          obtain ⟨q, hq⟩ : ∃ q, q = j * d := ⟨_, rfl⟩
          have m3 : IntKind.i64.wrap ((j : Int) * (d : Int)) = (q : Int) := by rw [← Int.natCast_mul, ← hq]; exact IntWalk.i64_in _ (by omega)
          rw [← hq] at HRw hjW HNX
          rw [HX.out] at HNX
          generalize ds.getD j 0 = x at *
          have s1 : IntKind.u64.wrap ((x : Int) - (m : Int)) = ((x - m : Nat) : Int) := by rw [show (x : Int) - m = ((x - m : Nat) : Int) by omega]; exact wrap_u64 (by omega)
          have HQ := Lib.hid hq
          clear hq
          have hwr := bwrite_any w5.heap.size S S q d (x - m) (fld (fun i => el ds i - m) d S q) wr (fld_len _ _ _ _) (by omega) (by omega) hd64 (by omega) (fld_bytes _ _ _ _) HRw.out
          go_wp2_with fail
          refine hwr.mono ?_
          rintro e w7 ⟨⟨u7, rfl⟩, hg7, hs7, hr7⟩
          rw [HNX.out] at hr7
          have hB7 : Below w5.heap.size w5 w7 := below_of_grown hBf hg7 hBf.size (Nat.le_refl _)
          have HR7 := Lib.hid hr7
          clear hr7 hs7 hg7 hwr
          go_wp2
          go_roundw
          case rel => exact ⟨j + 1, by omega, by go_num, HR7, hB7⟩
          case measure => simp [intOf]; omega
        · obtain rfl : j = k := by omega
          have hF0 : fld (fun i => el ds i - m) d S (j * d) = packF (el ds) j := by
            unfold packF
            rw [← HW.out, ← HM.out, HS.out, HY.out]
          have hrow := HRw.out
          rw [hF0] at hrow
          have hFlen : (packF (el ds) j).length = S := by rw [packF_len, ← HW.out, HS.out, HY.out]
          have hrd1 := hrow.all
          have hB6 := hB5.trans (hBf.mono hB5.size)
          have hO6 := own_next hO5 hBf
          have HP2 : Hid (packB (el ds) j n (rest l n) = gb 4 j ++ gb n m ++ [d] ++ packF (el ds) j ++ rest l n) := by show _ = _; rw [packB_pos h0, ← HM.out, ← HW.out]
          generalize packF (el ds) j = F at *
          have HFL := Lib.hid hFlen
          obtain ⟨ad, rfl⟩ := hA (by omega)
          clear HRw hrow hF0 hO5 hFlen
          by_cases hcL : c = L
          · have HRn : Hid (l.drop L = []) := List.drop_eq_nil_of_le (by omega)
            have HlL : Hid (l.length = L) := by show _ = _; omega
            subst hcL
            go_wp2_with (at_builtin; first
              | (refine wpL_append _ rfl (.tmp 90) (.tmp 91) _ rfl W.heap.size 5 i8 _ 1 1 Tryd.underlying22 hi8 hz80 hz81 hz82 rfl (by omega) _ (4 + n + 1) (ints .u8 (gb 4 j ++ gb n m ++ [d])) rfl hO6 (some ⟨w5.heap.size, 0, none⟩) S S (ints .u8 F) rfl (by rw [ints_length, HFL.out, Nat.mul_one]) hrd1 (ints_one _ _) (by unfold maxLen; omega) (by omega) hB6.size ?_; intro v7 w7 hown7 hg7 hat7; obtain ⟨A7, c7, rfl, hc7⟩ := own_slice hown7; have hB7 : Below W.heap.size W w7 := below_app hB6 hg7 hB6.size hO6 (Nat.le_refl _); rw [← ints_append] at hown7; clear hg7 hat7)
              | (refine wpL_append _ rfl (.tmp 93) (.tmp 101) _ rfl W.heap.size 5 i8 _ 1 1 Tryd.underlying22 hi8 hz80 hz81 hz82 rfl (by omega) _ (4 + n + 1 + S) (ints .u8 (gb 4 j ++ gb n m ++ [d] ++ F)) rfl hown7 (some ad) 0 0 (ints .u8 []) rfl rfl (show Rd w7 w7.heap.size (some ad) (ints .u8 []) from fun hn => absurd rfl hn) (ints_one _ _) (by unfold maxLen; omega) (by omega) hB7.size ?_; intro v8 w8 hown8 hg8 hat8; have hB8 : Below W.heap.size W w8 := below_app hB7 hg8 hB7.size hown7 (Nat.le_refl _); rw [← ints_append] at hown8; clear hg8 hat8))
            have hKz : w8.heap[D]? = some (.deferred (some [])) := (hB8.block D hDW).trans hK
            have hBz : Below w.heap.size w w8 := hB.trans (hB8.mono hB.size)
            have HZ : Hid (IsL (w8.putObj D (.deferred none)) (w8.putObj D (.deferred none)).heap.size .u8 v8 (packL l n)) := by
              show IsL _ _ _ _ _
              rw [← HPe.out, HP2.out, HR.out, HRn.out]
              exact IsL.of_own' (ownsRow_putObj hown8 _ hKz rfl) (by simp only [List.length_append, gb_len, HFL.out, List.length_singleton, List.length_nil])
            clear hown8
            go_wp2
            refine ⟨by simp, .inl ⟨_, _, rfl, run_takeDeferred hKz, ?_⟩⟩
            exact ⟨_, results_tmp2 rfl _ _ _, hBz.trans (belowK_b (w := w) (Nat.le_refl _) _ D _ _ (by omega) hKz rfl rfl), _, rfl, HZ.out⟩
          · rw [if_neg hcL] at hRl
            go_wp2_with (at_builtin; first
              | (refine wpL_append _ rfl (.tmp 90) (.tmp 91) _ rfl W.heap.size 5 i8 _ 1 1 Tryd.underlying22 hi8 hz80 hz81 hz82 rfl (by omega) _ (4 + n + 1) (ints .u8 (gb 4 j ++ gb n m ++ [d])) rfl hO6 (some ⟨w5.heap.size, 0, none⟩) S S (ints .u8 F) rfl (by rw [ints_length, HFL.out, Nat.mul_one]) hrd1 (ints_one _ _) (by unfold maxLen; omega) (by omega) hB6.size ?_; intro v7 w7 hown7 hg7 hat7; obtain ⟨A7, c7, rfl, hc7⟩ := own_slice hown7; have hB7 : Below W.heap.size W w7 := below_app hB6 hg7 hB6.size hO6 (Nat.le_refl _); rw [← ints_append] at hown7; clear hg7 hat7)
              | (refine wpL_append _ rfl (.tmp 93) (.tmp 101) _ rfl W.heap.size 5 i8 _ 1 1 Tryd.underlying22 hi8 hz80 hz81 hz82 rfl (by omega) _ (4 + n + 1 + S) (ints .u8 (gb 4 j ++ gb n m ++ [d] ++ F)) rfl hown7 (some (ad.add L)) (l.length - L) (c - L) (ints .u8 (l.drop L)) rfl (by rw [ints_length, List.length_drop, Nat.mul_one]) ((hRl.below (hB.trans (hB7.mono hB.size))).more (Nat.le_trans hB.size hB7.size)) (ints_one _ _) (by unfold maxLen; omega) (by omega) hB7.size ?_; intro v8 w8 hown8 hg8 hat8; have hB8 : Below W.heap.size W w8 := below_app hB7 hg8 hB7.size hown7 (Nat.le_refl _); rw [← ints_append] at hown8; clear hg8 hat8))
            have hKz : w8.heap[D]? = some (.deferred (some [])) := (hB8.block D hDW).trans hK
            have hBz : Below w.heap.size w w8 := hB.trans (hB8.mono hB.size)
            have HZ : Hid (IsL (w8.putObj D (.deferred none)) (w8.putObj D (.deferred none)).heap.size .u8 v8 (packL l n)) := by
              show IsL _ _ _ _ _
              rw [← HPe.out, HP2.out, HR.out]
              exact IsL.of_own' (ownsRow_putObj hown8 _ hKz rfl) (by simp only [List.length_append, gb_len, HFL.out, List.length_singleton, List.length_drop])
            clear hown8
            go_wp2
            refine ⟨by simp, .inl ⟨_, _, rfl, run_takeDeferred hKz, ?_⟩⟩
            exact ⟨_, results_tmp2 rfl _ _ _, hBz.trans (belowK_b (w := w) (Nat.le_refl _) _ D _ _ (by omega) hKz rfl rfl), _, rfl, HZ.out⟩
  case stop =>
    rintro D c' pre W _ _ h _
    exact h.elim
end Go.Proofs.YtmoenbdooilceaaDoor
