/-
  Walks: slices.Chunk and its iterator.
-/
import Derived.Test.YtmoenbdooilceaaDoorPackH
import Derived.RangeFuncNested
import Derived.RangeFuncBound
import Derived.RangeFuncCalls
import Derived.RangeFuncLeaves
import Derived.RangeFuncBox
import Derived.Shelf.Abstract
import Derived.WalkKit
import Derived.OwnWalkIn
import Derived.TacticsInMore
import Derived.LoopNIn
import Derived.LoopIn
import Derived.Maps.AppendAt
namespace Go.Proofs.YtmoenbdooilceaaDoor
open Go.RowKit Go.Shelf By
attribute [local go_sem] Oper.semAt_some

set_option maxRecDepth 100000 in
set_option maxHeartbeats 800000 in
/-- **slices.Chunk(s, n)**: both arguments are boxed; the function value captures the boxes. -/
theorem chunk_any (A : Option Addr) (len cap k : Nat) (w : World) (h1 : 1 ≤ k) (hk : k ≤ 8) :
    Calls Tryd.prog 42 #[.slice A len cap, .int .i64 k] w fun e w' => e = .returned (.func (.func 61) #[] #[.pointer (some ⟨w.heap.size, 0, none⟩), .pointer (some ⟨w.heap.size + 1, 0, none⟩)]) ∧
      w' = (w.alloc (.cells #[.slice A len cap] 22)).alloc (.cells #[.int .i64 k] 3) := by
  have hb := Boxed.new w 22 (.slice A len cap)
  have hb2 := Boxed.new (w.alloc (.cells #[.slice A len cap] 22)) 3 (.int .i64 (k : Int))
  rw [World.size_alloc] at hb2
  have hb3 := hb.alloc (.cells #[.int .i64 (k : Int)] 3)
  have hc := hb2.cell
  have hf := hb2.frozen
  have hc3 := hb3.cell
  have hf3 := hb3.frozen
  go_enter Tryd.func42, Tryd.ntmps42
  go_wp2
  go_ret
  exact ⟨rfl, rfl⟩

/-- Two variables' cells stay. -/
def Keep2 (a b : Nat) (W W' : World) : Prop := W'.cell? ⟨a, 0, none⟩ = W.cell? ⟨a, 0, none⟩ ∧ W'.cell? ⟨b, 0, none⟩ = W.cell? ⟨b, 0, none⟩
theorem Keep2.trans {a b : Nat} {A B C : World} (h : Keep2 a b A B) (h' : Keep2 a b B C) : Keep2 a b A C := ⟨h'.1.trans h.1, h'.2.trans h.2⟩

def encK (A : Option Addr) (g : Nat) (j : Nat) : Array Value := #[.slice (A.map (·.add (j * g))) g g]

set_option maxRecDepth 100000 in
set_option maxHeartbeats 2000000 in
/-- **slices.Chunk's closure**, at a slice that holds k groups of g. -/
theorem chunk1_in (n : Nat) (hn : 1 ≤ n) (l Bs Bn L cap k g : Nat) (A : Option Addr) (hA : 0 < k → ∃ ad, A = some ad) (hL : L = k * g) (hg : 1 ≤ g) (hg8 : g ≤ 8) (hcap : L ≤ cap) (hm : L ≤ 1048576)
    (W : World)     (J Jx : List { j : Nat // j < k } → World → Prop) (hAb : AbidesFrom W.heap.size J)
    (hY : ∀ pre (x : { j : Nat // j < k }) W, J pre W → pre.length < k → YieldAt Fence.wide (n - 1) Tryd.prog l (encK A g x.1) W fun e W' =>
      (e = .returned (.bool true) ∧ J (pre ++ [x]) W' ∧ Keep2 Bs Bn W W') ∨ (e = .returned (.bool false) ∧ Jx (pre ++ [x]) W'))
    (hBs : W.cell? ⟨Bs, 0, none⟩ = some (.slice A L cap)) (hBn : W.cell? ⟨Bn, 0, none⟩ = some (.int .i64 g)) (h0 : J [] W) :
    CallsIn Fence.wide n Tryd.prog 61 #[.func (.yield l) #[] #[], .pointer (some ⟨Bs, 0, none⟩), .pointer (some ⟨Bn, 0, none⟩)] W fun e W' => (∃ v, e = .returned v) ∧
      ((∃ ys : List { j : Nat // j < k }, ys.map (·.1) = List.range k ∧ J ys W') ∨ (∃ pre, True ∧ Jx pre W')) := by
  refine callsIn_of_wp Tryd.func61 rfl trivial ?_ rfl
  simp only [Tryd.ntmps61, List.size_toArray, List.length_cons, List.length_nil, Nat.reduceAdd, Nat.reduceSub, Array.replicate_succ, Array.replicate_zero, List.push_toArray, List.append_toArray, List.nil_append, List.cons_append]
  have HL := Lib.hid hL
  clear hL
  gi_wp2
  gi_loopw [4] (fun i wr => ∃ (ys : List { j : Nat // j < k }) (j p : Nat), j ≤ k ∧ Hid (p = j * g) ∧ p ≤ L ∧ i = .int .i64 p ∧ Hid (ys.map (·.1) = List.range j) ∧ J ys wr ∧ wr.cell? ⟨Bs, 0, none⟩ = some (.slice A L cap) ∧ wr.cell? ⟨Bn, 0, none⟩ = some (.int .i64 g))
    (fun i _ => L - (intOf i).toNat)
  case atStart => exact ⟨[], 0, 0, Nat.zero_le _, (show 0 = 0 * g by omega), Nat.zero_le _, rfl, (show _ = _ from rfl), h0, hBs, hBn⟩
  case round =>
    obtain ⟨ys, j, p, hj, HP, hp, rfl, HY, hJ, hBs, hBn⟩ := hrel
    by_cases hlt : p < L
    · have hjk : j < k := by
        have e1 := HP.out
        have e2 := HL.out
        rcases Nat.lt_or_ge j k with h | h
        · exact h
        · exfalso
          obtain rfl : j = k := by omega
          omega
      obtain ⟨ad, rfl⟩ := hA (by omega)
      have hpg : p + g ≤ L := by
        have e1 := HP.out
        have e2 := HL.out
        rw [e1, e2, ← Nat.succ_mul]
        exact Nat.mul_le_mul_right _ hjk
      have hylen : ys.length < k := by
        have := congrArg List.length HY.out
        simp at this; omega
      have hJd : J ys wr.drew := hAb ys wr wr.drew none hJ ⟨rfl, rfl, rfl, Nat.le_refl _, fun _ _ _ => rfl⟩ (fun r e => by cases e)
      obtain ⟨fn, tmps, assign, body, hy, hR⟩ := hY ys ⟨j, hjk⟩ wr.drew hJd hylen
      have HE : Hid (encK (some ad) g j = #[.slice (some (ad.add p)) g g]) := by
        have e1 := HP.out
        show _ = _
        rw [e1]; rfl
      dsimp only at hy
      rw [HE.out] at hy
      have q1 : ¬ cap = p := by omega
      have r1 : (p : Int) < L := by omega
      obtain ⟨s1, s2, s3⟩ := at_sum hpg (by omega)
      gi_wp2
      refine wpIn_wide.2 ?_
      go_still (by kernel_rfl)
      gi_wp2
      refine hR.mono ?_
      rintro e W3 (⟨rfl, hJ3, hk3⟩ | ⟨rfl, hJx3⟩)
      · have hBs3 : W3.cell? ⟨Bs, 0, none⟩ = some (.slice (some ad) L cap) := hk3.1.trans hBs
        have hBn3 : W3.cell? ⟨Bn, 0, none⟩ = some (.int .i64 g) := hk3.2.trans hBn
        gi_wp2
        go_roundw
        case rel =>
          refine ⟨ys ++ [⟨j, hjk⟩], j + 1, p + g, by omega, ?_, by omega, by go_num, ?_, hJ3, hBs3, hBn3⟩
          · have e1 := HP.out
            show p + g = (j + 1) * g
            rw [Nat.succ_mul]; omega
          · show _ = _
            rw [List.map_append, HY.out, List.range_succ]; rfl
        case measure => simp [intOf]; omega
      · gi_wp2
        refine bodyPost_ret (results_none rfl _ _ _) rfl ?_
        exact ⟨⟨_, rfl⟩, .inr ⟨_, trivial, hJx3⟩⟩
    · have hjk : j = k := by
        have e1 := HP.out
        have e2 := HL.out
        rcases Nat.lt_or_ge j k with h | h
        · exfalso
          have : (j + 1) * g ≤ k * g := Nat.mul_le_mul_right _ h
          rw [Nat.succ_mul] at this; omega
        · omega
      subst hjk
      have r1 : ¬ (p : Int) < L := by omega
      gi_wp2
      go_end0
      exact ⟨⟨_, rfl⟩, .inl ⟨_, HY.out, hJ⟩⟩

theorem chunk_stops (n : Nat) (hn : 1 ≤ n) (Bs Bn L cap k g : Nat) (A : Option Addr) (hA : 0 < k → ∃ ad, A = some ad) (hL : L = k * g) (hg : 1 ≤ g) (hg8 : g ≤ 8) (hcap : L ≤ cap) (hm : L ≤ 1048576) (w : World) (hBs' : Bs < w.heap.size) (hBn' : Bn < w.heap.size)
    (hBs : w.cell? ⟨Bs, 0, none⟩ = some (.slice A L cap)) (hBn : w.cell? ⟨Bn, 0, none⟩ = some (.int .i64 g)) :
    SeqStopsK Fence.wide n Tryd.prog 61 #[.pointer (some ⟨Bs, 0, none⟩), .pointer (some ⟨Bn, 0, none⟩)] (fun x : { j : Nat // j < k } => encK A g x.1) (Keep2 Bs Bn) (fun ys => ys.map (·.1) = List.range k) (fun _ => True) k w := fun l J Jx W hW hAb _ hY h0 =>
  chunk1_in n hn l Bs Bn L cap k g A hA hL hg hg8 hcap hm W J Jx hAb hY ((hW.cell (p := ⟨Bs, 0, none⟩) hBs').trans hBs) ((hW.cell (p := ⟨Bn, 0, none⟩) hBn').trans hBn) h0
end Go.Proofs.YtmoenbdooilceaaDoor
