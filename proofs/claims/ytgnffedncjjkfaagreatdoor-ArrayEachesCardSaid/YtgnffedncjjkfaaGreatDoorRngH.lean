/-
  A region that draws its order in a round of a range over a function: as anywhere (at the fence that asks nothing).
-/
import Derived.Test.YtgnffedncjjkfaaGreatDoorRngL
import Derived.Test.YtgnffedncjjkfaaGreatDoorHeldN
import Derived.Test.YtgnffedncjjkfaaGreatDoorHeldT
import Derived.TacticsIn
import Derived.OrdersIn
namespace Go.Proofs.YtgnffedncjjkfaaGreatDoor
open Go.RowKit
variable {P : Program} {ops : Array Oper} {Q : Exit → Act → World → Prop} {md : Region.Mode} {L n : Nat}

theorem wpIn_of_wp {o : Oper} {a : Act} {w : World} {K : Act → World → Prop} (hd : ∀ c, o.op ≠ .defer c) (h : o.wp P a w K Q) : o.wpIn (Fence.wide.inRound L) n P a w K Q := by
  refine ⟨fun _ _ => trivial, ?_⟩
  rw [show (Fence.wide.inRound L).round = some L from rfl, Oper.semAt_some L _ o hd]
  unfold Oper.wp at h
  generalize (execOp a.eval o).run P w = r at *
  cases r with
  | ok x w' =>
    cases x with
    | value v => exact h
    | skip => exact h
    | defer d => exact h
    | enter f args => exact ⟨fun h => (by cases h), CallsIn.inRound L (callsIn_wide.2 h)⟩
    | row row args => exact ⟨fun h => (by cases h), fun c cs _ => let ⟨v, w', r, s⟩ := h c cs; ⟨v, w', r, stepsIn_wide.2 s⟩⟩
    | _ => exact h.elim
  | halt x w' => cases x <;> exact h
theorem wpOpIn_of {i : Nat} {a : Act} {w : World} {K : Act → World → Prop} (hd : ∀ o ∈ ops.toList, ∀ c, o.op ≠ .defer c) (hL : ¬ LetsOut Q) (h : wpOp P ops Q i K a w) : wpOpIn (Fence.wide.inRound L) n P ops Q i K a w := by
  unfold wpOp at h
  unfold wpOpIn
  cases ho : ops[i]? with
  | none => rw [ho] at h; exact h
  | some o =>
    rw [ho] at h
    simp only at h ⊢
    split
    · rename_i hw
      rw [if_pos hw] at h
      rcases h with h | h
      · exact wpIn_of_wp (hd o (by simpa using Array.mem_of_getElem? ho)) h
      · exact absurd h.2 hL
    · rename_i hw
      rw [if_neg hw] at h
      exact ⟨fun _ _ => trivial, h⟩
theorem wpAnyIn_of (hd : ∀ o ∈ ops.toList, ∀ c, o.op ≠ .defer c) (hL : ¬ LetsOut Q) : ∀ (fuel : Nat) (listed : Array Bool) (a : Act) (w : World), wpAny P md ops Q fuel listed a w → wpAnyIn (Fence.wide.inRound L) n P md ops Q fuel listed a w
  | 0, _, _, _, h => h
  | fuel + 1, _, _, _, h => ⟨h.1, fun i hi => wpOpIn_of hd hL (wpOp_mono (fun a' w' h' => wpAnyIn_of hd hL fuel _ a' w' h') (h.2 i hi))⟩
/-- No operation is a 'defer' statement. -/
def noDefer (l : List Oper) : Bool := l.all fun o => match o.op with | .defer _ => false | _ => true
theorem noDefer_spec {l : List Oper} (h : noDefer l = true) : ∀ o ∈ l, ∀ c, o.op ≠ .defer c := fun o ho c e => by
  have := List.all_eq_true.1 h o ho
  rw [e] at this
  cases this
theorem region_roundM {id : Nat} {l : List Oper} {a : Act} {w : World} (m : Nat) (hm : P.follows .mixedOrders = true) (hd : noDefer l = true) (hL : ¬ LetsOut Q) (S : World → Prop) (hS : S w.drew)
    (h : S w.drew → wpAnyM P .any l.toArray Q S m l.toArray.size (Array.replicate l.toArray.size false) a w.drew) : (Code.region id l.toArray true).wpIn (Fence.wide.inRound L) n P Q a w :=
  wpIn_region_any hm (wpAnyIn_of (by simpa using noDefer_spec hd) hL _ _ _ _ (wpAny_of_M _ _ _ _ (h hS)))
end Go.Proofs.YtgnffedncjjkfaaGreatDoor
