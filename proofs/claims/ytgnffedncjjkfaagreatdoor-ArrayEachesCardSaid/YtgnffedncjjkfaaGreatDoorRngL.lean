/-
  A range over an iterator that keeps an index of its own in cells: the law of the statement, for a body that never leaves early.
-/
import Derived.RangeFuncNested
import Derived.RangeFuncLeaves
import Derived.Test.YtgnffedncjjkfaaGreatDoorWords
namespace Go.Proofs.YtgnffedncjjkfaaGreatDoor
open Go.RowKit
variable {F : Fence} {n : Nat} {P : Program}

/-- How the body of a round is left. -/
def rngPost (B : Nat) (R : World → Prop) (W : World) : Exit → Act → World → Prop
  | .normal, _, W' => KeepsFrom B W W' ∧ R W'
  | _, _, _ => False
/-- What an iterator with an index of its own (in block X) promises: N rounds; J is the caller's, Kp what a round keeps. -/
def IdxGives (F : Fence) (n : Nat) (P : Program) (gf : Nat) (lb : Array Value) (encs : Nat → Nat → Array Value) (Kp : Nat → Nat → World → Prop) (N : Nat) (w : World) : Prop :=
  ∀ (l : Nat) (J : Nat → Nat → World → Prop) (W : World), Below w.heap.size w W →
    (∀ X k A B row, W.heap.size ≤ X → J X k A → A.grownBy B row → (∀ r, row = some r → r = X) → J X k B) →
    (∀ X k W1, W.heap.size ≤ X → J X k W1 → Kp X k W1 → k < N → YieldAt F (n - 1) P l (encs X k) W1 fun e W' => e = .returned (.bool true) ∧ J X (k + 1) W' ∧ Kp X k W') →
    (∀ X, J X 0 W) →
    CallsIn F n P gf (#[.func (.yield l) #[] #[]] ++ lb) W fun e W' => (∃ v, e = .returned v) ∧ ∃ X, W.heap.size ≤ X ∧ J X N W'

theorem wpIn_range_idx {g : Operand} {ps : Array Tmp} {assign body : Code} {Q : Exit → Act → World → Prop} {a : Act} {w : World}
    (hro : F.round = none) (h1 : 1 ≤ n) {gf : Nat} {lb : Array Value} (hg : a.eval g = .func (.func gf) #[] lb) (hFg : F.fn gf) (eg : ∀ args w, (callFunc gf args).run P w = .ok (.enter gf args) w)
    {encs : Nat → Nat → Array Value} {Kp : Nat → Nat → World → Prop} {N : Nat} {w0 : World} (hseq : IdxGives F (n - 1) P gf lb encs Kp N w0) (hb0 : Below w0.heap.size w0 w) (hps : ∀ X k, (encs X k).size = ps.size)
    (hKp : ∀ X k A l o o', w.heap.size ≤ l → Kp X k A → A.heap[l]? = some o → o.isCells = false → Kp X k (A.putObj l o'))
    (I : Nat → Nat → World → Prop)
    (hI : ∀ X k A B row, w.heap.size + 2 ≤ X → I X k A → A.grownBy B row → (∀ r, row = some r → r = X ∨ (w.heap.size ≤ r ∧ ∃ o : Obj, A.heap[r]? = some o ∧ o.isCells = false)) → I X k B)
    (h0 : ∀ X (r : Loop), I X 0 ((w.alloc (.deferred (some []))).alloc (.loop r)))
    (a₁ : Nat → Nat → Act)
    (hassign : ∀ (l X k : Nat) (W : World) (K : Act → World → Prop), K (a₁ X k) W →
      assign.wpIn (F.inRound l) (n - 1 - 1) P (Exit.then K (fun _ _ _ => False)) { tmps := (ps.zip (encs X k)).foldl (fun t (p, v) => t.setIfInBounds p v) a.tmps, defers := [] } W)
    (hbody : ∀ (l X k : Nat) (W : World), w.heap.size ≤ l → w.heap.size + 2 ≤ X → I X k W → Kp X k W → k < N →
      body.wpIn (F.inRound l) (n - 1 - 1) P (rngPost w.heap.size (fun W' => I X (k + 1) W' ∧ Kp X k W') W) (a₁ X k) W)
    (hdone : ∀ (D X : Nat) (W : World), w.heap.size ≤ D → w.heap.size + 2 ≤ X → I X N W → W.heap[D]? = some (.deferred (some [])) → Q .normal { a with defers := { target := .collected D, args := #[] } :: a.defers } W) :
    (Code.rangeFunc g ps assign body).wpIn F n P Q a w := by
  refine wpIn_rangeFunc ?_
  intro fn hfn
  rw [hro]
  obtain ⟨rec, hrec⟩ : ∃ rec : LoopState → Option Code → Loop, rec = fun st pe => { state := st, pending := pe, fn, tmps := a.tmps, params := ps, assign, body, defers := w.heap.size } := ⟨_, rfl⟩
  obtain ⟨W1, hW1⟩ : ∃ W1, (w.alloc (.deferred (some []))).alloc (.loop (rec .ready none)) = W1 := ⟨_, rfl⟩
  have hz1 : W1.heap.size = w.heap.size + 2 := by rw [← hW1]; simp
  have hL1 : W1.heap[w.heap.size + 1]? = some (.loop (rec .ready none)) := by
    rw [← hW1]; have := World.alloc_heap_new (w.alloc (.deferred (some []))) (.loop (rec .ready none)); rwa [World.size_alloc] at this
  have hK1 : W1.heap[w.heap.size]? = some (.deferred (some [])) := by
    rw [← hW1]; exact (Below.heap_alloc _ _ _ (by simp)).trans (World.alloc_heap_new w _)
  have hI1 : ∀ X, I X 0 W1 := fun X => by rw [← hW1]; exact h0 X _
  have hb1 : Below w0.heap.size w0 W1 := by
    rw [← hW1]; exact hb0.trans ((((Below.refl _ w).alloc (Nat.le_refl _) _).alloc (by simp) _).mono hb0.size)
  refine ⟨w.heap.size + 1, [{ target := .collected w.heap.size, args := #[] }], W1, { target := .fn (.func gf) lb, args := #[.func (.yield (w.heap.size + 1)) #[] #[]] }, W1, gf,
    #[.func (.yield (w.heap.size + 1)) #[] #[]] ++ lb, W1, ?_, ?_, ?_, ?_, fun _ => h1, ?_⟩
  · rw [← hW1, hrec]; exact run_enterLoop_outer _ _ _ _ _
  · simp only [resolve, hg]
    simp [go_sem]
  · intro f' hf'; simp [Target.leads] at hf'; subst hf'; exact hFg
  · simp [invoke, go_sem, eg]
  · refine (hseq (w.heap.size + 1)
      (fun X k W => w.heap.size + 2 ≤ X → (I X k W ∧ W.heap[w.heap.size + 1]? = some (.loop (rec .ready none)) ∧ W.heap[w.heap.size]? = some (.deferred (some []))))
      W1 hb1 ?_ ?_ (fun X _ => ⟨hI1 X, hL1, hK1⟩)).mono ?_
    · intro X k A B row hX hs hg' hr hX2
      have hs := hs hX2
      have far : ∀ j : Nat, j < w.heap.size + 2 → some j ≠ row := fun j hj e => by have := hr j e.symm; omega
      refine ⟨hI X k A B row hX2 hs.1 hg' (fun r e => .inl (hr r e)), (hg'.block _ (Array.getElem?_eq_some_iff.1 hs.2.1).1 (far _ (by omega))).trans hs.2.1, (hg'.block _ (Array.getElem?_eq_some_iff.1 hs.2.2).1 (far _ (by omega))).trans hs.2.2⟩
    · intro X k W hX hJ hkp hlt
      rw [hz1] at hX
      obtain ⟨hi, hl, hk⟩ := hJ hX
      have hsz : w.heap.size + 1 < W.heap.size := (Array.getElem?_eq_some_iff.1 hl).1
      have hy := run_yield (P := P) (args := encs X k) hl (by rw [hrec]; exact hps X k)
      rw [hrec] at hy
      refine ⟨fn, _, assign, body, hy, roundIn_of_wpIn hfn (hassign _ X k W _ ⟨_, run_beginRound hl (by rw [hrec]), ?_⟩)⟩
      have hl2 : (W.putObj (w.heap.size + 1) (.loop { rec .ready none with state := .busy })).heap[w.heap.size + 1]? = some (.loop { rec .ready none with state := .busy }) := World.putObj_heap_same hsz
      have hk2 : (W.putObj (w.heap.size + 1) (.loop { rec .ready none with state := .busy })).heap[w.heap.size]? = some (.deferred (some [])) := (World.putObj_heap_other (by omega)).trans hk
      have put : ∀ (j : Nat) (A : World) (o o' : Obj), I X j A → A.heap[w.heap.size + 1]? = some o → o.isCells = false → I X j (A.putObj (w.heap.size + 1) o') := fun j A o o' h1 h2 h3 =>
        hI X j A _ (some (w.heap.size + 1)) hX h1 (grownBy_putObj' A _ o') (fun r e => by cases e; exact .inr ⟨by omega, o, h2, h3⟩)
      refine wpIn_mono (hbody _ X k _ (by omega) hX (put k W _ _ hi hl rfl) (hKp X k W _ _ _ (by omega) hkp hl rfl) hlt) ?_
      rintro e a3 W3 hp
      cases e with
      | normal =>
        obtain ⟨hk3, hi3, hkp3⟩ := hp
        have hl3 := hk3.same _ _ (by omega) hl2 rfl
        have hd3 := hk3.same _ _ (Nat.le_refl _) hk2 rfl
        have hr := run_endRound (P := P) none hl3
        rw [hrec] at hr
        refine ⟨_, _, hr, rfl, fun _ => ⟨put _ W3 _ _ hi3 hl3 rfl, ?_, (World.putObj_heap_other (by omega)).trans hd3⟩, hKp X k W3 _ _ _ (by omega) hkp3 hl3 rfl⟩
        rw [hrec]
        exact World.putObj_heap_same (Array.getElem?_eq_some_iff.1 hl3).1
      | ret => exact hp.elim
      | exit id => exact hp.elim
      | goto t => exact hp.elim
      | panic ch => exact hp.elim
      | outgrown => exact hp.elim
    · rintro e W2 ⟨⟨v, rfl⟩, X, hX, hJ⟩
      rw [hz1] at hX
      obtain ⟨hi, hl, hk⟩ := hJ hX
      refine ⟨none, _, by have := run_endLoop (P := P) hl (by rw [hrec]; simp); rw [hrec] at this; exact this, hdone _ X _ (Nat.le_refl _) hX ?_ ((World.putObj_heap_other (by omega)).trans hk)⟩
      exact hI X N W2 _ (some (w.heap.size + 1)) hX hi (grownBy_putObj' W2 _ _) (fun r e => by cases e; exact .inr ⟨by omega, _, hl, rfl⟩)
end Go.Proofs.YtgnffedncjjkfaaGreatDoor
