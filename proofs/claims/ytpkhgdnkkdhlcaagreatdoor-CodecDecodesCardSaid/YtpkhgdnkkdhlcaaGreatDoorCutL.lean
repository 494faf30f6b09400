/-
  's[k:]' of a slice whose elements have one cell: one operation of the walk, without parting on whether the capacity ends there.
-/
import Derived.Test.YtpkhgdnkkdhlcaaGreatDoorWordsC
import Derived.OwnWalk
import Derived.Laws.Slices
import Derived.ChangeKeysEq
namespace Go.Proofs.YtpkhgdnkkdhlcaaGreatDoor
open Go.RowKit

theorem wpL_low {P : Program} {w : World} {ops : Array Oper} {rest : List Oper} {o : Oper} {a : Act} {Q : Exit → Act → World → Prop} (hgd : o.guard = none) (x lo : Operand) (t e : TypeId) (i : TypeInfo)
    (hop : o.op = Op.slice t x (some lo) none none) (ht : P.underlying t = some (.slice e)) (hi : P.info? e = some i) (hsz : i.size = 1) (A : Option Addr) (n c m : Nat) (hx : a.eval x = .slice A n c) (z : Int) (hl : a.eval lo = .int .i64 z) (hz : z = (m : Int)) (hmn : m ≤ n) (hnc : n ≤ c)
    (h : wpList P ops Q rest (a.put o.dst (.slice (if c = m then A else A.map (·.add m)) (n - m) (c - m))) w) : wpList P ops Q (o :: rest) a w := by
  subst hz
  refine wpList_plain hgd fun K hK => ?_
  have q1 : (m : Int) ≤ (n : Int) := by omega
  have q2 : (n : Int) ≤ (c : Int) := by omega
  have q3 : (m : Int) ≤ (c : Int) := by omega
  have q4 : ¬ (c : Int) < (n : Int) := by omega
  have q5 : ¬ (n : Int) < (m : Int) := by omega
  have hr : ∀ w : World, (Instr.sliceAt t (.slice A n c) (some (.int .i64 (m : Int))) none none).run P w = .ok (.slice (if c = m then A else A.map (·.add m)) (n - m) (c - m)) w := fun w => by
    have hs : (sizeOf e).run P w = .ok 1 w := by
      have h1 : (typeInfo e).run P w = .ok i w := by simp [typeInfo, hi, go_sem]
      simp [sizeOf, h1, hsz]
    simp [Instr.sliceAt, run_underlying ht, Instr.slice, Instr.sliceBounds, run_sliceBound, hs, q1]
  unfold Oper.wp execOp
  simp only [hop, hx, hl, Option.map_some, Option.map_none, Sem.run_bind, Sem.run_pure, hr, Result.andThen_ok]
  exact hK _ _ h
end Go.Proofs.YtpkhgdnkkdhlcaaGreatDoor

