/-
  Walks: slices.Backward at stages, and its iterator.
-/
import Derived.Test.YtpkhgdnkkdhlcaaGreatDoorCvA
import Derived.RangeFuncNested
import Derived.RangeFuncBound
import Derived.RangeFuncCalls
import Derived.RangeFuncLeaves
import Derived.RangeFuncBox
import Derived.Shelf.Abstract
import Derived.WalkKit
import Derived.OwnWalkIn
import Derived.TacticsInMore
import Derived.LoopNIn
import Derived.LoopIn
import Derived.Maps.AppendAt
namespace Go.Proofs.YtpkhgdnkkdhlcaaGreatDoor
open Go.RowKit Go.Shelf Ar
attribute [local go_sem] Oper.semAt_some

set_option maxRecDepth 100000 in
set_option maxHeartbeats 800000 in
/-- **slices.Backward(s)**: the argument is boxed; the function value captures the box. -/
theorem backward_any (A : Option Addr) (len cap : Nat) (w : World) :
    Calls Tryz.prog 61 #[.slice A len cap] w fun e w' => e = .returned (.func (.func 108) #[] #[.pointer (some ⟨w.heap.size, 0, none⟩)]) ∧
      w' = w.alloc (.cells #[.slice A len cap] 37) := by
  have hb := Boxed.new w 37 (.slice A len cap)
  have hc := hb.cell
  have hf := hb.frozen
  go_enter Tryz.func61, Tryz.ntmps61
  go_wp2
  go_ret
  exact ⟨rfl, rfl⟩

/-- A variable's cell stays, and what was there before. -/
def KeepS (B0 Bs : Nat) (W W' : World) : Prop := W'.cell? ⟨Bs, 0, none⟩ = W.cell? ⟨Bs, 0, none⟩ ∧ ∀ p : Addr, p.block < B0 → W'.cell? p = W.cell? p
theorem KeepS.trans {B0 Bs : Nat} {A B C : World} (h : KeepS B0 Bs A B) (h' : KeepS B0 Bs B C) : KeepS B0 Bs A C := ⟨h'.1.trans h.1, fun p hp => (h'.2 p hp).trans (h.2 p hp)⟩
def encS (C : List Stg) (j : Nat) : Array Value := #[.int .i64 ((C.length : Int) - 1 - j), .agg #[.int .i64 (C.getD (C.length - 1 - j) (0, 0, ⟨#[]⟩)).1, .int .i64 (C.getD (C.length - 1 - j) (0, 0, ⟨#[]⟩)).2.1, .string (C.getD (C.length - 1 - j) (0, 0, ⟨#[]⟩)).2.2]]
theorem rd_kept {W W' : World} {B : Nat} {A : Option Addr} {xs : List Value} (h : Rd W B A xs) (hk : ∀ p : Addr, p.block < B → W'.cell? p = W.cell? p) : Rd W' B A xs := fun hn => by
  obtain ⟨ad, e, hb, hc⟩ := h hn
  exact ⟨ad, e, hb, fun j u hu => by rw [hk _ (by rw [addr_block]; exact hb)]; exact hc j u hu⟩

set_option maxRecDepth 100000 in
set_option maxHeartbeats 2000000 in
/-- **slices.Backward's closure**. -/
theorem back1_in (n : Nat) (hn : 1 ≤ n) (l B0 Bs cap : Nat) (C : List Stg) (A : Option Addr) (hm : C.length ≤ 1048576)
    (W : World) (J Jx : List { j : Nat // j < C.length } → World → Prop)
    (hY : ∀ pre (x : { j : Nat // j < C.length }) W, J pre W → pre.length < C.length → YieldAt Fence.wide (n - 1) Tryz.prog l (encS C x.1) W fun e W' =>
      (e = .returned (.bool true) ∧ J (pre ++ [x]) W' ∧ KeepS B0 Bs W W') ∨ (e = .returned (.bool false) ∧ Jx (pre ++ [x]) W'))
    (hBs : W.cell? ⟨Bs, 0, none⟩ = some (.slice A C.length cap)) (hR : Rd W B0 A (srow C)) (h0 : J [] W) :
    CallsIn Fence.wide n Tryz.prog 108 #[.func (.yield l) #[] #[], .pointer (some ⟨Bs, 0, none⟩)] W fun e W' => (∃ v, e = .returned v) ∧
      ((∃ ys : List { j : Nat // j < C.length }, ys.map (·.1) = List.range C.length ∧ J ys W') ∨ (∃ pre : List { j : Nat // j < C.length }, pre.map (·.1) = List.range pre.length ∧ Jx pre W')) := by
  refine callsIn_of_wp Tryz.func108 rfl trivial ?_ rfl
  simp only [Tryz.ntmps108, List.size_toArray, List.length_cons, List.length_nil, Nat.reduceAdd, Nat.reduceSub, Array.replicate_succ, Array.replicate_zero, List.push_toArray, List.append_toArray, List.nil_append, List.cons_append]
  gi_wp2
  gi_loopw [3] (fun i wr => ∃ (ys : List { j : Nat // j < C.length }) (j : Nat), j ≤ C.length ∧ i = .int .i64 ((C.length : Int) - 1 - j) ∧ Hid (ys.map (·.1) = List.range j) ∧ J ys wr ∧ wr.cell? ⟨Bs, 0, none⟩ = some (.slice A C.length cap) ∧ Rd wr B0 A (srow C))
    (fun i _ => (intOf i + 1).toNat)
  case atStart => exact ⟨[], 0, Nat.zero_le _, by go_num, rfl, h0, hBs, hR⟩
  case round =>
    obtain ⟨ys, j, hj, rfl, HY, hJ, hBs, hR⟩ := hrel
    by_cases hlt : j < C.length
    · obtain ⟨i, hi⟩ : ∃ i, i = C.length - 1 - j := ⟨_, rfl⟩
      have hii : (C.length : Int) - 1 - j = (i : Int) := by omega
      have hil : i < C.length := by omega
      obtain ⟨ad, rfl, hab, d1, d2, d3⟩ := hR.stage (List.getElem?_eq_getElem hil)
      have hgd : C.getD i (0, 0, ⟨#[]⟩) = C[i] := by rw [List.getD_eq_getElem?_getD, List.getElem?_eq_getElem hil]; rfl
      have hylen : ys.length < C.length := by
        have := congrArg List.length HY.out
        simp at this; omega
      obtain ⟨fn, tmps, assign, body, hy, hRr⟩ := hY ys ⟨j, hlt⟩ wr hJ hylen
      have HE : Hid (encS C j = #[.int .i64 (i : Int), .agg #[.int .i64 C[i].1, .int .i64 C[i].2.1, .string C[i].2.2]]) := by
        show _ = _
        unfold encS
        rw [hii, ← hi, hgd]
      dsimp only at hy
      rw [HE.out] at hy
      have b1 : (0 : Int) ≤ (i : Int) := by omega
      have b2 : (i : Int) < (C.length : Int) := by omega
      have HI := Lib.hid hi
      rw [hii]
      clear hi hii hgd
      have HYN : Hid ((ys ++ [(⟨j, hlt⟩ : { j : Nat // j < C.length })]).map (fun x => x.1) = List.range (j + 1)) := by
        show _ = _
        rw [List.map_append, HY.out, List.range_succ]; rfl
      gi_wp2_with fail
      refine hRr.mono ?_
      rintro e W3 (⟨rfl, hJ3, hk3⟩ | ⟨rfl, hJx3⟩)
      · have hBs3 := hk3.1.trans hBs
        have hR3 := rd_kept hR hk3.2
        gi_wp2
        go_roundw
        case rel => exact ⟨ys ++ [⟨j, hlt⟩], j + 1, by omega, (by have := HI.out; show Value.int _ _ = Value.int _ _; congr 1; omega), HYN, hJ3, hBs3, hR3⟩
        case measure => have := HI.out; simp [intOf]
      · gi_wp2
        refine bodyPost_ret (results_none rfl _ _ _) rfl ?_
        refine ⟨⟨_, rfl⟩, .inr ⟨_, ?_, hJx3⟩⟩
        have hl := congrArg List.length HYN.out
        rw [List.length_map, List.length_range] at hl
        rw [hl]
        exact HYN.out
    · obtain rfl : j = C.length := by omega
      have e1 : (C.length : Int) - 1 - (C.length : Int) = -1 := by omega
      rw [e1]
      gi_wp2
      go_end0
      exact ⟨⟨_, rfl⟩, .inl ⟨_, HY.out, hJ⟩⟩

theorem back_stops (n : Nat) (hn : 1 ≤ n) (Bs cap : Nat) (C : List Stg) (A : Option Addr) (hm : C.length ≤ 1048576) (w : World) (B0 : Nat) (hB0 : B0 ≤ w.heap.size) (hBs' : Bs < w.heap.size)
    (hBs : w.cell? ⟨Bs, 0, none⟩ = some (.slice A C.length cap)) (hR : Rd w B0 A (srow C)) :
    SeqStopsK Fence.wide n Tryz.prog 108 #[.pointer (some ⟨Bs, 0, none⟩)] (fun x : { j : Nat // j < C.length } => encS C x.1) (KeepS B0 Bs) (fun ys => ys.map (·.1) = List.range C.length) (fun pre => pre.map (·.1) = List.range pre.length) C.length w := fun l J Jx W hW _ _ hY h0 =>
  back1_in n hn l B0 Bs cap C A hm W J Jx hY ((hW.cell (p := ⟨Bs, 0, none⟩) hBs').trans hBs) (rd_kept hR fun p hp => hW.cell (p := p) (by omega)) h0
end Go.Proofs.YtpkhgdnkkdhlcaaGreatDoor

