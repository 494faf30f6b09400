/-
  Words for memory, of no program: what is copied into, and cleared in, a row of the call's own; what grows but for one row.
-/
import Derived.Test.YtpkhgdnkkdhlcaaGreatDoorWords
import Derived.Laws.CopyOwn
import Derived.Lib.SliceRun
namespace Go.Proofs.YtpkhgdnkkdhlcaaGreatDoor
open Go.RowKit

theorem grown_of_below {w w' : World} (h : Below w.heap.size w w') (row : Option Nat) : w.grownBy w' row := ⟨h.os, h.tape, h.output, h.size, fun k hk _ => h.block k hk⟩
theorem grown_of_below' {w w' : World} {B : Nat} (h : Below B w w') (hB : w.heap.size ≤ B) (row : Option Nat) : w.grownBy w' row := ⟨h.os, h.tape, h.output, h.size, fun k hk _ => h.block k (by omega)⟩
theorem grown_drewN (w : World) (n : Nat) (row : Option Nat) : w.grownBy (w.drewN n) row := ⟨rfl, rfl, rfl, Nat.le_refl _, fun _ _ _ => rfl⟩
theorem grown_refl (w : World) (row : Option Nat) : w.grownBy w row := ⟨rfl, rfl, rfl, Nat.le_refl _, fun _ _ _ => rfl⟩
theorem grown_trans {a b c : World} {row : Option Nat} (h : a.grownBy b row) (k : b.grownBy c row) : a.grownBy c row :=
  ⟨k.os.trans h.os, k.tape.trans h.tape, k.output.trans h.output, Nat.le_trans h.size k.size, fun i hi hr => (k.block i (Nat.lt_of_lt_of_le hi h.size) hr).trans (h.block i hi hr)⟩
theorem grown_setRow (w : World) (g : Nat) (cs : Array Value) : w.grownBy (w.setRow g cs) (some g) :=
  ⟨rfl, rfl, rfl, by simp [World.setRow], fun k _ hr => setRow_other w g k cs (fun e => hr (by rw [e]))⟩
theorem grown_setCell (w : World) (a : Addr) (u : Value) : w.grownBy (w.setCell a u) (some a.block) :=
  ⟨rfl, rfl, rfl, by simp [World.setCell], fun k _ hr => Below.heap_setCell w a u k (fun e => hr (by rw [e]))⟩
theorem below_of_grown {B g : Nat} {w0 w w' : World} (hb : Below B w0 w) (hg : w.grownBy w' (some g)) (hB : B ≤ w.heap.size) (hBg : B ≤ g) : Below B w0 w' :=
  hb.grown hg hB fun k hk => by cases hk; exact hBg

theorem addr_size {n b c : Nat} {k : Nat} : (if c = k then (⟨b, n, none⟩ : Addr) else (⟨b, n, none⟩ : Addr).add k) = ⟨b, if c = k then n else n + k, none⟩ := by
  split
  · rfl
  · rw [addr_mk]
/-- Part of a row. -/
theorem Rd.part {w : World} {B g o : Nat} {xs : List Value} (h : Rd w B (some ⟨g, o, none⟩) xs) (k : Nat) : Rd w B (some ⟨g, o + k, none⟩) (xs.drop k) := fun hn => by
  obtain ⟨ad, e, hb, hc⟩ := h (by intro e; rw [e] at hn; simp at hn)
  injection e with e
  subst e
  exact ⟨_, rfl, hb, fun j u hu => by
    have := hc (k + j) u (by rw [← hu, List.getElem?_drop])
    rw [addr_mk] at this ⊢
    rw [Nat.add_assoc]; exact this⟩

section
variable {P : Program} (w : World)
/-- 'copy' into a row of the call's own: what is read is any slice, nil too, no longer than the room. -/
theorem wpL_copy {ops : Array Oper} {rest : List Oper} {o : Oper} {a : Act} {Q : Exit → Act → World → Prop} (hgd : o.guard = none) (d s : Operand) (dT sT : TypeId)
    (ho : o.op = .call { callee := .builtin .copy, args := #[d, s], argTypes := #[dT, sT] }) (elem : TypeId) (hu : P.underlying dT = some (.slice elem)) (hsz : (P.info? elem).map (·.size) = some 1)
    (g off dLen dCap : Nat) (A : Option Addr) (sLen sCap : Nat) (hd : a.eval d = .slice (some ⟨g, off, none⟩) dLen dCap) (hs : a.eval s = .slice A sLen sCap)
    (cur : List Value) (t : TypeId) (hg : w.heap[g]? = some (.cells cur.toArray t (0, 0))) (cs : List Value) (hn : cs.length = sLen) (hle : sLen ≤ dLen) {B : Nat}
    (hsrc : Rd w B A cs) (hfit : off + sLen ≤ cur.length) (h1 : ∀ v ∈ cs, v.oneCell' = true)
    (h : ∀ w', Hid (w'.heap[g]? = some (.cells (cur.take off ++ (cs ++ cur.drop (off + sLen))).toArray t (0, 0))) → w.grownBy w' (some g) → wpList P ops Q rest (a.put o.dst (goInt sLen)) w') :
    wpList P ops Q (o :: rest) a w := by
  subst hn
  by_cases h0 : cs.length = 0
  · obtain rfl : cs = [] := List.eq_nil_of_length_eq_zero h0
    refine wpList_copy_nothing hgd d s dT sT ho elem hu hsz (some ⟨g, off, none⟩) A dLen dCap _ sCap hd hs (by simp) ?_
    refine h w (show _ = _ from ?_) (grown_refl _ _)
    simpa using hg
  · obtain ⟨ad, rfl, hb, hc⟩ := hsrc (by intro e; rw [e] at h0; simp at h0)
    refine wpList_copy_own hgd d s dT sT ho elem hu hsz g off dLen dCap ad _ sCap hd hs cur.toArray t hg cs (Nat.min_eq_left hle).symm hc (by simpa using hfit) h1 ?_
    exact h _ (setRow_heap w g _ _ t (0, 0) hg) (grown_setRow w g _)

theorem setCells_row (g : Nat) (t : TypeId) : ∀ (vs : List Value) (o : Nat) (cur : List Value) (w : World), w.heap[g]? = some (.cells cur.toArray t (0, 0)) → o + vs.length ≤ cur.length →
    (w.setCells g o vs).heap[g]? = some (.cells (cur.take o ++ (vs ++ cur.drop (o + vs.length))).toArray t (0, 0)) ∧ w.grownBy (w.setCells g o vs) (some g)
  | [], o, cur, w, hg, _ => by
    simp only [World.setCells, List.nil_append, List.length_nil, Nat.add_zero, List.take_append_drop]
    exact ⟨hg, grown_refl _ _⟩
  | v :: vs, o, cur, w, hg, hl => by
    have hb : (w.setCell ⟨g, o, none⟩ v).heap[g]? = some (.cells (cur.set o v).toArray t (0, 0)) := by
      have := (show Bk w g t cur.toArray from hg).put o v
      unfold Bk at this
      simpa using this
    obtain ⟨h1, h2⟩ := setCells_row g t vs (o + 1) (cur.set o v) _ hb (by simp at hl ⊢; omega)
    refine ⟨?_, grown_trans (grown_setCell w ⟨g, o, none⟩ v) h2⟩
    rw [World.setCells, h1]
    simp only [List.length_cons] at hl
    have e := list_seg_step cur o v vs (by omega)
    simp only [List.append_assoc] at e
    simp only [List.length_cons, List.cons_append] at e ⊢
    rw [e]
end
end Go.Proofs.YtpkhgdnkkdhlcaaGreatDoor

