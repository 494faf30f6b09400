/-
  Walks: the reference's natural numbers: trim, NatOf, NatCmp.
  Walks: the reference's natural numbers: NatAdd, NatSub.
  Walks: the reference's natural numbers: NatSub.
  Walks: the reference's natural numbers: NatMul, small.
  Walks: the reference's natural numbers: small; NatDiv where the divisor has one limb, or is greater.
  Walks: the reference's natural numbers: NatDiv.
-/
import Derived.Test.YtgnffedncjjkfaaDoorNatV
import Derived.Test.YtgnffedncjjkfaaDoorQdivM
import Derived.Outline
import Derived.Test.YtgnffedncjjkfaaDoorDivM
import Derived.Deep.CutRange
import Derived.Test.YtgnffedncjjkfaaDoorFracU
namespace Go.Proofs.YtgnffedncjjkfaaDoor
open Go.RowKit Ar

end Go.Proofs.YtgnffedncjjkfaaDoor

namespace Go.Proofs.YtgnffedncjjkfaaDoor
open Go.RowKit Ar

end Go.Proofs.YtgnffedncjjkfaaDoor

namespace Go.Proofs.YtgnffedncjjkfaaDoor
open Go.RowKit Ar

/-- The value lies in blocks that are new. -/
def Fresh (base : Nat) (v : Value) : Prop := ∀ A n c, v = .slice (some A) n c → base ≤ A.block
theorem Fresh.own {w : World} {base : Nat} {T : TypeId} {size n : Nat} {A : Option Addr} {c : Nat} {xs : List Value} (h : w.ownsRow base T size (.slice A n c) n xs) (k : Nat) : Fresh base (.slice A k c) := fun A' n' c' e => by
  injection e with e1 _ _
  rcases h.2 with ⟨hv, _⟩ | ⟨g, cap, cur, hv, hb, _⟩
  · injection hv with h1 _ _
    rw [h1] at e1; cases e1
  · injection hv with h1 _ _
    rw [h1] at e1
    injection e1 with e1
    rw [← e1]; exact hb
theorem IsN.set {w : World} {B base : Nat} {k : IntKind} {v : Value} {n : Nat} (h : IsN w B k v n) (hf : Fresh base v) {p : Addr} (hp : p.block < base) (u : Value) : IsN (w.setCell p u) B k v n := by
  obtain ⟨A, c, rfl, h1, h3⟩ := h
  refine ⟨A, c, rfl, h1, fun hn => ?_⟩
  obtain ⟨ad, rfl, hb, hc⟩ := h3 hn
  have := hf _ _ _ rfl
  refine ⟨ad, rfl, hb, fun j x hx => ?_⟩
  rw [World.cell?_setCell_other _ _ _ _ (fun e => by rw [e, addr_block] at hp; omega)]
  exact hc j x hx

end Go.Proofs.YtgnffedncjjkfaaDoor

namespace Go.Proofs.YtgnffedncjjkfaaDoor
open Go.RowKit Ar

end Go.Proofs.YtgnffedncjjkfaaDoor

namespace Go.Proofs.YtgnffedncjjkfaaDoor
open Go.RowKit Ar

end Go.Proofs.YtgnffedncjjkfaaDoor

namespace Go.Proofs.YtgnffedncjjkfaaDoor
open Go.RowKit Ar

end Go.Proofs.YtgnffedncjjkfaaDoor

