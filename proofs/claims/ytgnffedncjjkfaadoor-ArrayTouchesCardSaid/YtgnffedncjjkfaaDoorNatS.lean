/-
  Walks: package ratio's natural numbers: String.
-/
import Derived.Test.YtgnffedncjjkfaaDoorNatU
import Derived.Test.YtgnffedncjjkfaaDoorWordsB
import Derived.Test.YtgnffedncjjkfaaDoorTxt
import Derived.Lib.Builder
import Derived.Lib.AppendStr
import Derived.Lib.UnsafeStr
import Derived.Lib.Strings
import Derived.Lib.Walk
import Derived.Laws.Externs
import Derived.RegionTactic
import Derived.Test.YtgnffedncjjkfaaDoorShelf
import Derived.Lib.AppendIntMem
import Derived.Lib.ItoaMem
import Derived.LoopTactic
import Derived.WalkSmall
namespace Go.Proofs.YtgnffedncjjkfaaDoor
open Go.RowKit Ar

/-- What the list of laid variables gives the walks. -/
def EnvR (w : World) : Prop := Lib.TabIs Tryd.prog w "internal/strconv.uint64pow10" .u64 Lib.pow10Tab ∧ 3 < w.heap.size
theorem EnvR.below {w w' : World} {B : Nat} (h : EnvR w) (hb : Below B w w') (h1 : 3 < B) : EnvR w' :=
  ⟨var?_below hb (by kernel_rfl) h1 h.1, Nat.lt_of_lt_of_le h.2 hb.size⟩
theorem EnvR.next {w w' : World} (h : EnvR w) (hb : Below w.heap.size w w') : EnvR w' := h.below hb h.2
theorem EnvR.alloc {w : World} (h : EnvR w) (o : Obj) : EnvR (w.alloc o) := h.next ((Below.refl _ _).alloc (Nat.le_refl _) _)
theorem EnvR.drewN {w : World} (h : EnvR w) (n : Nat) : EnvR (w.drewN n) := h

end Go.Proofs.YtgnffedncjjkfaaDoor

