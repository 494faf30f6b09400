/-
  Words: lists of lists of numbers in memory.
  Plain law: the chunks of a shape.
  Walks: package array: sized, numbers, Box.
  Walks: package array: Box.
  Walks: package array: Chunks.
  Plain law: the chunks that a slab touches.
  Plain law: slices.Compact of numbers in order.
  Words: slices.Compact of a row of one's own; lists that are done, beside one under way.
  Walks: package array: Touched.
-/
import Derived.Test.YtgnffedncjjkfaaDoorArxP
import Derived.Test.YtgnffedncjjkfaaDoorSlab
import Derived.Test.YtgnffedncjjkfaaDoorSlbY
import Derived.Lib.MinMax
import Derived.Lib.SlicesCompact
import Derived.Sort.OwnSortedInts
import Derived.Test.YtgnffedncjjkfaaDoorShelf
namespace Go.Proofs.YtgnffedncjjkfaaDoor
open Go.RowKit Ix Ar

theorem Tryd.ints_info : (Tryd.prog.info? 22).map (fun i => (i.zero, i.size, i.bytes)) = some (some (.slice none 0 0), 1, 24) := by kernel_rfl
/-- Lists of numbers. -/
def IsG (w : World) (B : Nat) (v : Value) (L : List (List Int)) : Prop :=
  ∃ A c S, v = .slice A L.length c ∧ L.length ≤ c ∧ S.length = L.length ∧ Rd w B A S ∧ ∀ (i : Nat) (x : List Int), L[i]? = some x → ∃ u, S[i]? = some u ∧ IsI w B u x
theorem IsG.more {w : World} {B B' : Nat} {v : Value} {L : List (List Int)} (h : IsG w B v L) (hB : B ≤ B') : IsG w B' v L := by
  obtain ⟨A, c, S, e, h1, h2, h3, h4⟩ := h
  exact ⟨A, c, S, e, h1, h2, h3.more hB, fun i x hx => by obtain ⟨u, k1, k2⟩ := h4 i x hx; exact ⟨u, k1, k2.more hB⟩⟩
theorem IsG.below {w w' : World} {B : Nat} {v : Value} {L : List (List Int)} (h : IsG w B v L) (hb : Below B w w') : IsG w' B v L := by
  obtain ⟨A, c, S, e, h1, h2, h3, h4⟩ := h
  exact ⟨A, c, S, e, h1, h2, h3.below hb, fun i x hx => by obtain ⟨u, k1, k2⟩ := h4 i x hx; exact ⟨u, k1, k2.below hb⟩⟩
theorem IsG.next {w w' : World} {v : Value} {L : List (List Int)} (h : IsG w w.heap.size v L) (hb : Below w.heap.size w w') : IsG w' w'.heap.size v L := (h.below hb).more hb.size
theorem IsG.form {w : World} {B : Nat} {v : Value} {L : List (List Int)} (h : IsG w B v L) : ∃ A c, v = .slice A L.length c := by
  obtain ⟨A, c, S, e, _⟩ := h
  exact ⟨A, c, e⟩
theorem IsG.nil (w : World) (B : Nat) : IsG w B (.slice none 0 0) [] := ⟨none, 0, [], rfl, Nat.le_refl _, rfl, (fun h => absurd rfl h), fun i x h => by simp at h⟩
/-- What lists give a walk at one place. -/
theorem IsG.at {w : World} {B : Nat} {A : Option Addr} {n c : Nat} {L : List (List Int)} (h : IsG w B (.slice A n c) L) {i : Nat} {x : List Int} (hx : L[i]? = some x) :
    ∃ ad A2 c2, A = some ad ∧ ad.block < B ∧ w.cell? (ad.add i) = some (.slice A2 x.length c2) ∧ IsI w B (.slice A2 x.length c2) x := by
  obtain ⟨A', c', S, e, _, _, hr, h4⟩ := h
  injection e with e _ _
  subst e
  obtain ⟨u, hu, hI⟩ := h4 i x hx
  obtain ⟨A2, c2, rfl, hc⟩ := hI.form
  have hi : i < S.length := (List.getElem?_eq_some_iff.1 hu).1
  obtain ⟨ad, e1, e2, e3⟩ := hr.at_ (k := i) hi
  refine ⟨ad, A2, c2, e1, e2, ?_, hI⟩
  rw [e3, ← List.getElem?_eq_getElem hi]
  exact hu
theorem IsI.kept {w w' : World} {B : Nat} {v : Value} {l : List Int} (h : IsI w B v l) (hg : Ints w w') : IsI w' B v l := by
  obtain ⟨A, c, e, h1, h3⟩ := h
  refine ⟨A, c, e, h1, fun hn => ?_⟩
  obtain ⟨ad, e2, hb, hc⟩ := h3 hn
  refine ⟨ad, e2, hb, fun j u hu => ?_⟩
  have h5 := hc j u hu
  have hm : u ∈ zints l := List.mem_of_getElem? hu
  simp only [zints, List.mem_map] at hm
  obtain ⟨y, _, rfl⟩ := hm
  exact hg _ _ _ h5
/-- A list that does not lie in block X. -/
def offX (u : Value) (X : Nat) : Prop := ∀ ad n c, u = .slice (some ad) n c → ad.block ≠ X
/-- Lists under way; none of them, nor the row of them, lies in the block av. -/
def OwnG (av : Option Nat) (w : World) (base : Nat) (v : Value) (L : List (List Int)) : Prop :=
  ∃ S : List Value, S.length = L.length ∧ w.ownsRow base 22 1 v L.length S ∧ NoIntB w v.ownBlock ∧ (∀ X, av = some X → v.ownBlock ≠ some X) ∧ ∀ (i : Nat) (x : List Int), L[i]? = some x → ∃ u, S[i]? = some u ∧ IsI w w.heap.size u x ∧ ∀ X, av = some X → offX u X
theorem OwnG.nil (av : Option Nat) (w : World) (base : Nat) : OwnG av w base (.slice none 0 0) [] := ⟨[], rfl, World.ownsRow_nil _ _ _ _, fun b hb => by simp [Value.ownBlock] at hb, fun X _ => by simp [Value.ownBlock], fun i p h => by simp at h⟩
theorem OwnG.form {av : Option Nat} {w : World} {base : Nat} {v : Value} {l : List (List Int)} (h : OwnG av w base v l) : ∃ A c, v = .slice A l.length c := by
  obtain ⟨S, _, hown, _⟩ := h
  rcases hown.2 with ⟨rfl, e⟩ | ⟨g, cap, cur, rfl, _⟩
  · exact ⟨none, 0, by rw [e]⟩
  · exact ⟨_, _, rfl⟩
theorem OwnG.is {av : Option Nat} {w : World} {base : Nat} {v : Value} {l : List (List Int)} (h : OwnG av w base v l) : IsG w w.heap.size v l := by
  obtain ⟨S, h1, hown, _, _, h2⟩ := h
  have hrd := hown.2
  obtain ⟨A, c, e, hc⟩ : ∃ A c, v = .slice A l.length c ∧ l.length ≤ c := by
    rcases hrd with ⟨rfl, e⟩ | ⟨g, cap, cur, rfl, _, _, hnc, _⟩
    · exact ⟨none, 0, by rw [e], by omega⟩
    · exact ⟨_, _, rfl, hnc⟩
  subst e
  exact ⟨A, c, S, rfl, hc, h1, Rd.of_own hown, fun i x hx => by obtain ⟨u, k1, k2, _⟩ := h2 i x hx; exact ⟨u, k1, k2⟩⟩
theorem row_cells {w : World} {base : Nat} {t : TypeId} {v : Value} {n : Nat} {S : List Value} (h : w.ownsRow base t 1 v n S) {g : Nat} (hg : v.ownBlock = some g) : ∃ cur, w.heap[g]? = some (.cells cur t) ∧ base ≤ g := by
  rcases h.2 with ⟨rfl, _⟩ | ⟨g', cap, cur, rfl, hb, hh, _⟩
  · simp [Value.ownBlock] at hg
  · have : g' = g := by simpa [Value.ownBlock] using hg
    subst this
    exact ⟨cur, hh, hb⟩
theorem keeps_row {w w' : World} {base : Nat} {t : TypeId} {v : Value} {n : Nat} {S : List Value} (h : w.ownsRow base t 1 v n S) (hg : w.grownBy w' v.ownBlock) : KeepsOthers w w' :=
  ⟨hg.size, fun k o hk ho => (hg.block k (Array.getElem?_eq_some_iff.1 hk).1 (fun e => by
    obtain ⟨cur, h1, _⟩ := row_cells h e.symm
    rw [h1] at hk; cases hk; cases ho)).trans hk⟩
/-- Memory grows, not in the row nor in the lists. -/
theorem OwnG.grown {av : Option Nat} {w w' : World} {base : Nat} {v : Value} {l : List (List Int)} (h : OwnG av w base v l) {row : Option Nat} (hg : w.grownBy w' row) (hr : ∀ r, row = some r → av = some r ∨ ∃ o : Obj, w.heap[r]? = some o ∧ o.isCells = false) : OwnG av w' base v l := by
  obtain ⟨S, h1, hown, hni, hav, h2⟩ := h
  have far : ∀ g, v.ownBlock = some g → some g ≠ row := fun g hgv e => by
    rcases hr g e.symm with h3 | ⟨o, h3, h4⟩
    · exact hav g h3 hgv
    · obtain ⟨cur, h5, _⟩ := row_cells hown hgv
      rw [h5] at h3; cases h3; cases h4
  refine ⟨S, h1, hown.kept hg ?_, fun b hbk j k i hc => ?_, hav, fun i p hp => ?_⟩
  · cases e : v.ownBlock with
    | none => exact .inl rfl
    | some g => exact .inr (far g e)
  · obtain ⟨cur, h5, _⟩ := row_cells hown hbk
    refine hni b hbk j k i ?_
    have h6 := hg.block b (Array.getElem?_eq_some_iff.1 h5).1 (far b hbk)
    rw [World.cell?] at hc ⊢
    simp only at hc ⊢
    rw [h6] at hc
    exact hc
  · obtain ⟨s, k1, k2, k3⟩ := h2 i p hp
    refine ⟨s, k1, ?_, k3⟩
    obtain ⟨A, c, e, m1, m2⟩ := k2
    refine ⟨A, c, e, m1, fun hn => ?_⟩
    obtain ⟨ad, e2, hb, hc⟩ := m2 hn
    refine ⟨ad, e2, Nat.lt_of_lt_of_le hb hg.size, fun j u hu => ?_⟩
    by_cases hx : some ad.block = row
    · rcases hr ad.block hx.symm with h3 | ⟨o, h3, h4⟩
      · exact absurd rfl (k3 _ h3 ad _ _ (by rw [e, e2]))
      · exact cell_kept (hc j u hu) hg (fun r er => by rw [← hx] at er; cases er; exact ⟨o, h3, h4⟩)
    · have h7 := hc j u hu
      unfold World.cell? at h7 ⊢
      rw [hg.block _ (by rw [addr_block]; exact hb) (by rw [addr_block]; exact hx)]
      exact h7
theorem OwnG.keep {av : Option Nat} {w w' : World} {base : Nat} {v : Value} {l : List (List Int)} (h : OwnG av w base v l) (hb : Below w.heap.size w w') : OwnG av w' base v l := h.grown (grown_of_below hb none) (fun r e => by cases e)
theorem OwnG.drew {av : Option Nat} {w : World} {base : Nat} {v : Value} {l : List (List Int)} (h : OwnG av w base v l) : OwnG av w.drew base v l := h.keep (Below.refl _ w).drew
/-- One more list. -/
theorem OwnG.add {av : Option Nat} {w w' : World} {base : Nat} {v v' u : Value} {L : List (List Int)} {x : List Int} {S : List Value} (h1 : S.length = L.length) (hni : NoIntB w v.ownBlock) (hav : ∀ X, av = some X → v.ownBlock ≠ some X) (h2 : ∀ (i : Nat) (x : List Int), L[i]? = some x → ∃ u, S[i]? = some u ∧ IsI w w.heap.size u x ∧ ∀ X, av = some X → offX u X)
    (hs : IsI w w.heap.size u x) (hu : ∀ X, av = some X → offX u X ∧ X < w.heap.size) (hown : w'.ownsRow base 22 1 v' (L.length + 1) (S ++ [u])) (hg : w.grownBy w' v.ownBlock) (hn' : NoIntB w' v'.ownBlock) (hb' : v'.ownBlock = v.ownBlock ∨ v'.ownBlock = some w.heap.size) : OwnG av w' base v' (L ++ [x]) := by
  have hI := ints_grown hg hni
  refine ⟨S ++ [u], by simp [h1], ?_, hn', fun X hX => ?_, fun i q hq => ?_⟩
  · rw [List.length_append, List.length_singleton]
    exact hown
  · rcases hb' with e | e
    · rw [e]; exact hav X hX
    · rw [e]; intro e2; injection e2 with e2; have := (hu X hX).2; omega
  · rcases Nat.lt_or_ge i L.length with hi | hi
    · rw [List.getElem?_append_left hi] at hq
      obtain ⟨s', k1, k2, k3⟩ := h2 i q hq
      exact ⟨s', by rw [List.getElem?_append_left (by omega)]; exact k1, (k2.kept hI).more hg.size, k3⟩
    · rw [List.getElem?_append_right hi] at hq
      have hi0 : i - L.length = 0 := by
        rcases Nat.eq_zero_or_pos (i - L.length) with h0 | h0
        · exact h0
        · rw [List.getElem?_eq_none (by simp; omega)] at hq; cases hq
      rw [hi0] at hq
      simp at hq
      subst hq
      exact ⟨u, by rw [List.getElem?_append_right (by omega), h1, hi0]; rfl, (hs.kept hI).more hg.size, fun X hX => (hu X hX).1⟩
theorem ints_setCell {w : World} {p : Addr} {old : Value} (hc : w.cell? p = some old) (hn : noInt old) (u : Value) : Ints w (w.setCell p u) := fun q k i hq => by
  rw [World.cell?_setCell_other w p q u (fun e => by subst e; rw [hc] at hq; injection hq with hq; exact hn k i hq)]
  exact hq
theorem grown_cell {w w' : World} {row : Option Nat} {p : Addr} (hg : w.grownBy w' row) (hlt : p.block < w.heap.size) (hne : some p.block ≠ row) : w'.cell? p = w.cell? p := by
  unfold World.cell?
  rw [hg.block _ hlt hne]
/-- A store elsewhere, over what is no number. -/
theorem OwnG.put {av : Option Nat} {w : World} {base : Nat} {v : Value} {l : List (List Int)} (h : OwnG av w base v l) {p : Addr} {old : Value} (hp : v.ownBlock ≠ some p.block) (hc : w.cell? p = some old) (hn : noInt old) (x : Value) : OwnG av (w.setCell p x) base v l := by
  obtain ⟨S, h1, hown, hni, hav, h2⟩ := h
  refine ⟨S, h1, OwnsRow_far hown hp x, fun b hb j k i hq => ?_, hav, fun i y hy => ?_⟩
  · rw [World.cell?_setCell_other w p ⟨b, j, none⟩ x (fun e => hp (by rw [hb]; congr 1; first | exact congrArg Addr.block e | exact (congrArg Addr.block e).symm))] at hq
    exact hni b hb j k i hq
  · obtain ⟨u, k1, k2, k3⟩ := h2 i y hy
    exact ⟨u, k1, by rw [sz_setCell]; exact k2.kept (ints_setCell hc hn x), k3⟩
/-- A row of one's own lies behind what was there. -/
theorem own_offX {w : World} {base : Nat} {t : TypeId} {v : Value} {n : Nat} {S : List Value} (h : w.ownsRow base t 1 v n S) {X : Nat} (hX : X < base) : offX v X := fun ad m c e => by
  have hb : v.ownBlock = some ad.block := by rw [e]; rfl
  obtain ⟨_, _, h3⟩ := row_cells h hb
  omega
/-- append of one list, at an operation of a region that draws its order. -/
theorem step_append_list {w : World} {o : Oper} {a : Act} {K : Act → World → Prop} {Q : Exit → Act → World → Prop} (s x : Operand)
    (ho : o.op = .call { callee := .builtin .append, args := #[s, x], argTypes := #[28, 28] })
    (av : Option Nat) (base : Nat) (v : Value) (L : List (List Int)) (hs : a.eval s = v) (hO : OwnG av w base v L) (hbase : base ≤ w.heap.size) (hL : L.length ≤ 1000000)
    (ad : Addr) (y : List Int) (u : Value) (hx : a.eval x = .slice (some ad) 1 1) (hc : w.cell? ad = some u) (hI : IsI w w.heap.size u y) (hu : ∀ X, av = some X → offX u X ∧ X < w.heap.size)
    (h : ∀ v' w', OwnG av w' base v' (L ++ [y]) → w.grownBy w' v.ownBlock → KeepsOthers w w' → (∀ g, v.ownBlock = some g → base ≤ g ∧ ∃ cur, w.heap[g]? = some (.cells cur 22)) → NoIntB w v.ownBlock → K (a.put o.dst v') w') :
    Oper.wp Tryd.prog o a w K Q := by
  obtain ⟨i0, hi0, hz0, hz1, hz2⟩ := info_parts Tryd.ints_info
  obtain ⟨S, h1, hown, hni, hav, h2⟩ := hO
  obtain ⟨Au, cu, rfl, hcu⟩ := hI.form
  have hnews : ∀ j z, [Value.slice Au y.length cu][j]? = some z → w.cell? (ad.add j) = some z := fun j z hz => by
    cases j with
    | zero => simp at hz; subst hz; exact hc
    | succ j => simp at hz
  obtain ⟨v', w', hr, k2, k3, k5⟩ := append_ni (P := Tryd.prog) w base 28 o.type 22 i0 (.slice none 0 0) 1 24 Tryd.underlying28 hi0 hz0 hz1 hz2 rfl (by omega) v L.length S hown hni (fun u hu => by simp [Value.cells] at hu; subst hu; intro k i; simp) ad 1 1 [.slice Au y.length cu] rfl hnews (by intro z hz; simp at hz; subst hz; rfl) (by intro z hz; simp at hz; subst hz; intro k i; simp) (by omega) (by unfold maxLen; omega) (by omega) hbase
  obtain ⟨v2, w2, hr2, _, _, _, k6⟩ := run_append_own_at (P := Tryd.prog) w base 28 o.type 22 i0 (.slice none 0 0) 1 24 Tryd.underlying28 hi0 hz0 hz1 hz2 rfl (by omega) v L.length S hown ad 1 1 [.slice Au y.length cu] rfl hnews (by intro z hz; simp at hz; subst hz; rfl) (by unfold maxLen; omega) (by omega) hbase
  rw [hr] at hr2
  injection hr2 with e1 e2
  subst e1
  subst e2
  unfold Oper.wp execOp
  simp only [ho, resolve, invoke, builtin, Sem.run_bind, Sem.run_pure, Result.andThen_ok, List.map_toArray, List.map_cons, List.map_nil, hs, hx, hr]
  exact h v' w' (OwnG.add h1 hni hav h2 hI hu k2 k3 k5 k6) k3 (keeps_row hown k3) (fun g hg => by obtain ⟨cur, q1, q2⟩ := row_cells hown hg; exact ⟨q2, cur, q1⟩) hni
/-- A new block of one slice. -/
theorem new_one (w : World) (t : TypeId) (x : Value) : ∀ j u, [x][j]? = some u → (w.alloc (.cells #[x] t)).cell? ((⟨w.heap.size, 0, none⟩ : Addr).add j) = some u := fun j u hu => by
  have k := (Bk.new w t #[x]).cell (0 + j)
  rw [addr_mk, k]
  simpa using hu
end Go.Proofs.YtgnffedncjjkfaaDoor

namespace Ix

/-- How many chunks there are in each dimension. -/
def nums : List Nat → List Nat → List Nat
  | s :: S, z :: Z => (s + z - 1) / z :: nums S Z
  | _, _ => []
/-- The slab of a chunk. -/
def boxC : List Nat → List Nat → List Nat → List Cut
  | s :: S, z :: Z, i :: I => (((i * z : Nat) : Int), ((min z (s - i * z) : Nat) : Int), 1) :: boxC S Z I
  | _, _, _ => []
/-- The chunk that an element lies in. -/
def chk : List Nat → List Nat → List Nat
  | z :: Z, i :: I => i / z :: chk Z I
  | _, _ => []
theorem nums_len : ∀ {S Z : List Nat}, Z.length = S.length → (nums S Z).length = S.length
  | [], [], _ => rfl
  | [], _ :: _, h => by simp at h
  | _ :: _, [], h => by simp at h
  | s :: S, z :: Z, h => by show (nums S Z).length + 1 = S.length + 1; rw [nums_len (by simpa using h)]
theorem num_le {s z : Nat} (hz : 1 ≤ z) : (s + z - 1) / z ≤ s := by
  rcases Nat.eq_zero_or_pos s with rfl | hs
  · rw [Nat.div_eq_of_lt (by omega)]; exact Nat.le_refl _
  · refine Nat.le_of_lt_succ ((Nat.div_lt_iff_lt_mul hz).2 ?_)
    have h1 : s + z - 1 ≤ s * z + z - 1 := by have := Nat.mul_le_mul_left s hz; omega
    rw [Nat.succ_mul]; omega
theorem nums_le : ∀ {S Z : List Nat}, (∀ z ∈ Z, 1 ≤ z) → Z.length = S.length → prod (nums S Z) ≤ prod S
  | [], [], _, _ => Nat.le_refl _
  | [], _ :: _, _, h => by simp at h
  | _ :: _, [], _, h => by simp at h
  | s :: S, z :: Z, hz, h => Nat.mul_le_mul (num_le (hz z (by simp))) (nums_le (fun x hx => hz x (by simp [hx])) (by simpa using h))
theorem nums_small {M : Nat} : ∀ {S Z : List Nat}, (∀ z ∈ Z, 1 ≤ z) → (∀ s ∈ S, s ≤ M) → ∀ n ∈ nums S Z, n ≤ M
  | [], _, _, _, n, h => by simp [nums] at h
  | _ :: _, [], _, _, n, h => by simp [nums] at h
  | s :: S, z :: Z, hz, hs, n, h => by
    rcases List.mem_cons.1 h with rfl | h
    · exact Nat.le_trans (num_le (hz z (by simp))) (hs s (by simp))
    · exact nums_small (fun x hx => hz x (by simp [hx])) (fun x hx => hs x (by simp [hx])) n h
theorem nums_at : ∀ {S Z : List Nat} {j : Nat}, j < S.length → j < Z.length → (nums S Z).getD j 0 = (S.getD j 0 + Z.getD j 0 - 1) / Z.getD j 0
  | [], _, _, h, _ => by simp at h
  | _ :: _, [], _, _, h => by simp at h
  | s :: S, z :: Z, 0, _, _ => rfl
  | s :: S, z :: Z, j + 1, h1, h2 => by simpa [nums] using nums_at (S := S) (Z := Z) (j := j) (by simpa using h1) (by simpa using h2)
theorem num_lt {s z i : Nat} (hz : 1 ≤ z) (h : i < (s + z - 1) / z) : i * z < s := by
  have h1 : (i + 1) * z ≤ s + z - 1 := (Nat.le_div_iff_mul_le hz).1 h
  rw [Nat.add_mul] at h1
  omega
theorem box_fit : ∀ {S Z I : List Nat}, (∀ z ∈ Z, 1 ≤ z) → Z.length = S.length → Inside (nums S Z) I → Fit (S.map Int.ofNat) (boxC S Z I)
  | [], [], [], _, _, _ => trivial
  | [], [], _ :: _, _, _, h => h.elim
  | [], _ :: _, _, _, h, _ => by simp at h
  | _ :: _, [], _, _, h, _ => by simp at h
  | _ :: _, _ :: _, [], _, _, h => h.elim
  | s :: S, z :: Z, i :: I, hz, hl, h => by
    have h1 := num_lt (hz z (by simp)) h.1
    refine ⟨⟨Int.natCast_nonneg _, Int.natCast_nonneg _, Int.le_refl _, ?_, fun _ => ⟨?_, ?_⟩⟩, box_fit (fun x hx => hz x (by simp [hx])) (by simpa using hl) h.2⟩
    · show ((i * z : Nat) : Int) ≤ (s : Int); omega
    · show ((i * z : Nat) : Int) < (s : Int); omega
    · show ((min z (s - i * z) : Nat) : Int) - 1 ≤ ((s : Int) - 1 - ((i * z : Nat) : Int)) / 1
      rw [Int.ediv_one]; omega
theorem box_len : ∀ {S Z I : List Nat}, (∀ z ∈ Z, 1 ≤ z) → Z.length = S.length → Inside (nums S Z) I → (boxC S Z I).length = S.length := fun hz hl h => by
  have := fit_len (box_fit hz hl h); rwa [List.length_map] at this
theorem box_at : ∀ {S Z I : List Nat} {j : Nat}, j < S.length → j < Z.length → j < I.length → (boxC S Z I)[j]? = some (((I.getD j 0 * Z.getD j 0 : Nat) : Int), ((min (Z.getD j 0) (S.getD j 0 - I.getD j 0 * Z.getD j 0) : Nat) : Int), 1)
  | [], _, _, _, h, _, _ => by simp at h
  | _ :: _, [], _, _, _, h, _ => by simp at h
  | _ :: _, _ :: _, [], _, _, _, h => by simp at h
  | s :: S, z :: Z, i :: I, 0, _, _, _ => rfl
  | s :: S, z :: Z, i :: I, j + 1, h1, h2, h3 => by simpa [boxC] using box_at (S := S) (Z := Z) (I := I) (j := j) (by simpa using h1) (by simpa using h2) (by simpa using h3)
/-- .. and each element is one of its chunk's slab. -/
theorem thr_chk : ∀ {S Z P : List Nat}, (∀ z ∈ Z, 1 ≤ z) → Z.length = S.length → Inside S P → Inside (nums S Z) (chk Z P) ∧ ∃ J, Inside (cnt (boxC S Z (chk Z P))) J ∧ thr (boxC S Z (chk Z P)) J = P
  | [], [], [], _, _, _ => ⟨trivial, [], trivial, rfl⟩
  | [], [], _ :: _, _, _, h => h.elim
  | [], _ :: _, _, _, h, _ => by simp at h
  | _ :: _, [], _, _, h, _ => by simp at h
  | _ :: _, _ :: _, [], _, _, h => h.elim
  | s :: S, z :: Z, p :: P, hz, hl, h => by
    have h0 := hz z (by simp)
    obtain ⟨k1, J, k2, k3⟩ := thr_chk (S := S) (Z := Z) (P := P) (fun x hx => hz x (by simp [hx])) (by simpa using hl) h.2
    have h1 : p < s := h.1
    have h2 := Nat.div_add_mod p z
    have h3 := Nat.mod_lt p h0
    rw [Nat.mul_comm] at h2
    refine ⟨⟨?_, k1⟩, p % z :: J, ⟨?_, k2⟩, ?_⟩
    · refine (Nat.le_div_iff_mul_le h0).2 ?_
      show (p / z + 1) * z ≤ _
      rw [Nat.add_mul]; omega
    · show p % z < ((min z (s - p / z * z) : Nat) : Int).toNat
      rw [Int.toNat_natCast]; omega
    · show (((p / z * z : Nat) : Int) + ((p % z : Nat) : Int) * 1).toNat :: thr (boxC S Z (chk Z P)) J = p :: P
      rw [k3, show (((p / z * z : Nat) : Int) + ((p % z : Nat) : Int) * 1).toNat = p by omega]
end Ix

namespace Go.Proofs.YtgnffedncjjkfaaDoor
open Go.RowKit Ix Ar

theorem Tryd.cut_info : (Tryd.prog.info? 45).map (fun i => (i.zero, i.size, i.bytes)) = some (some (.agg #[.int .i64 0, .int .i64 0, .int .i64 0]), 3, 24) := by kernel_rfl
/-- Chunk sizes that are right for a shape. -/
def Zs (S Z : List Int) : Prop := Z.length = S.length ∧ ∀ z ∈ Z, 1 ≤ z ∧ z ≤ 1024
def zB (z : Int) : Bool := decide (1 ≤ z) && decide (z ≤ 1024)
theorem zB_iff (z : Int) : zB z = true ↔ 1 ≤ z ∧ z ≤ 1024 := by simp [zB]

set_option maxHeartbeats 800000 in
theorem sized1_any (z : Int) (w : World) :
    Calls Tryd.prog 30 #[.int .i64 z] w fun e w' => w = w' ∧ e = .returned (.bool (!zB z)) := by
  have h0 : (!zB z) = (decide (z < 1) || decide (1024 < z)) := by
    rw [Bool.eq_iff_iff]
    simp [zB]
  rw [h0]
  clear h0
  go_enter Tryd.func30, Tryd.ntmps30
  cases h1 : decide (z < 1)
  · go_wp2
    go_ret
    exact ⟨rfl, rfl⟩
  · go_wp2
    go_ret
    exact ⟨rfl, rfl⟩
set_option maxRecDepth 100000 in
set_option maxHeartbeats 1600000 in
theorem idxz_any (A : Option Addr) (c B : Nat) (Z : List Int) (w : World) (hm : Z.length ≤ maxLen) (h : Rd w B A (zints Z)) :
    Calls Tryd.prog 34 #[.slice A Z.length c, .func (.func 30) #[] #[]] w fun e w' => w = w' ∧ ∃ n : Int, e = .returned (.int .i64 n) ∧ (0 ≤ n ↔ Z.any (fun z => !zB z) = true) := by
  unfold maxLen at hm
  go_enter Tryd.func34, Tryd.ntmps34
  go_wp2
  go_loop [8] (fun i => ∃ k : Nat, k ≤ Z.length ∧ i = .int .i64 k ∧ Hid ((Z.take k).any (fun z => !zB z) = false)) (fun i => Z.length - (intOf i).toNat)
  case atStart => exact ⟨0, Nat.zero_le _, rfl, rfl⟩
  case round =>
    obtain ⟨k, hk, rfl, HN⟩ := hrel
    by_cases hlt : k < Z.length
    · obtain ⟨ad, rfl, hab, hcell⟩ := h.zint hlt
      have hmem : Z[k] ∈ Z := List.getElem_mem _
      have HT : Hid ((Z.take (k + 1)).any (fun s => !zB s) = !zB Z[k]) := by
        show _ = _
        rw [take_snocI hlt, List.any_append, HN.out]; simp
      have HA : Hid ((!zB Z[k]) = true → Z.any (fun s => !zB s) = true) := fun e => List.any_eq_true.2 ⟨_, hmem, e⟩
      clear hmem
      generalize Z[k] = z at *
      go_wp2_with fail
      refine (sized1_any z w).mono ?_
      rintro e w1 ⟨rfl, rfl⟩
      cases hp : !zB z
      · have HN2 : Hid ((Z.take (k + 1)).any (fun s => !zB s) = false) := by show _ = _; rw [HT.out]; exact hp
        clear hp
        go_wp2
        go_round
        case rel => exact ⟨k + 1, by omega, by go_num, HN2.out⟩
        case measure => simp [intOf]; omega
      · have HY := Lib.hid (HA.out hp)
        clear hp
        go_wp2
        go_ret
        exact ⟨rfl, _, rfl, fun _ => HY.out, fun _ => by omega⟩
    · have HE : Hid (Z.any (fun s => !zB s) = false) := by
        have := HN.out
        rwa [List.take_of_length_le (by omega)] at this
      go_wp2
      go_ret
      exact ⟨rfl, -1, rfl, fun h => by omega, fun ⟨z, hz, h2⟩ => by have := List.any_eq_false.1 HE.out z hz; simp [h2] at this⟩
noncomputable def sizedR (S Z : List Int) : Int := open Classical in if VS S then (if Zs S Z then 0 else 2) else 60
theorem sizedR_shape {S Z : List Int} (h : ¬ VS S) : sizedR S Z = 60 := by unfold sizedR; rw [if_neg h]
theorem sizedR_arg {S Z : List Int} (h : VS S) (k : ¬ Zs S Z) : sizedR S Z = 2 := by unfold sizedR; rw [if_pos h, if_neg k]
theorem sizedR_ok {S Z : List Int} (h : VS S) (k : Zs S Z) : sizedR S Z = 0 := by unfold sizedR; rw [if_pos h, if_pos k]
set_option maxRecDepth 100000 in
set_option maxHeartbeats 1600000 in
theorem sized_any (S Z : List Int) (A A' : Option Addr) (c c' B B' : Nat) (w : World) (hr : Rd w B A (zints S)) (hr' : Rd w B' A' (zints Z)) (hL : S.length ≤ maxLen) (hM : Z.length ≤ maxLen) :
    Calls Tryd.prog 14 #[.slice A S.length c, .slice A' Z.length c'] w fun e w' => w = w' ∧ e = .returned (.int .i64 (sizedR S Z)) := by
  obtain ⟨qs, hqs⟩ : ∃ b : Bool, b = true ↔ VS S := by classical exact ⟨decide _, decide_eq_true_iff⟩
  have VV := Lib.hid (validshape_any S A c B w hr hL qs hqs)
  cases hs : qs
  · have hna : ¬ VS S := fun h => by rw [hqs.2 h] at hs; cases hs
    rw [sizedR_shape hna]
    subst hs
    clear hqs hna hr hr' hL hM
    go_enter Tryd.func14, Tryd.ntmps14
    go_wp2_with fail
    refine VV.out.mono ?_
    rintro e w1 ⟨rfl, rfl⟩
    go_wp2
    go_ret
    exact ⟨rfl, rfl⟩
  have hV := hqs.1 hs
  subst hs
  unfold maxLen at hM
  have h4 := hV.1
  by_cases hl : Z.length = S.length
  · have hne : ((Z.length : Int) != (S.length : Int)) = false := by simp; omega
    have HI := Lib.hid (idxz_any A' c' B' Z w (by unfold maxLen; omega) hr')
    have HQ : Hid (sizedR S Z = if Z.any (fun z => !zB z) then 2 else 0) := by
      show _ = _
      cases h : Z.any (fun z => !zB z)
      · rw [sizedR_ok hV ⟨hl, fun z hz => (zB_iff z).1 (by have := List.any_eq_false.1 h z hz; simpa using this)⟩]; rfl
      · rw [sizedR_arg hV (fun k => by
          obtain ⟨z, hz, h2⟩ := List.any_eq_true.1 h
          rw [(zB_iff z).2 (k.2 z hz)] at h2; cases h2)]; rfl
    rw [HQ.out]
    clear HQ hqs hV hr hr' hl
    generalize Z.any (fun z => !zB z) = r at *
    have CF : Calls Tryd.prog 29 #[.slice A' Z.length c', .func (.func 30) #[] #[]] w fun e w' => w = w' ∧ e = .returned (.bool r) := by
      go_enter Tryd.func29, Tryd.ntmps29
      go_wp2_with fail
      refine HI.out.mono ?_
      rintro e w1 ⟨rfl, k, rfl, h2⟩
      have HE : Hid (decide (0 ≤ k) = r) := by
        show _ = _
        rw [Bool.eq_iff_iff, decide_eq_true_eq]; exact h2
      clear h2
      go_wp2
      go_ret
      exact ⟨rfl, by rw [← HE.out]; rfl⟩
    clear HI
    have CF := Lib.hid CF
    go_enter Tryd.func14, Tryd.ntmps14
    go_wp2_with fail
    refine VV.out.mono ?_
    rintro e w1 ⟨rfl, rfl⟩
    go_wp2_with fail
    refine CF.out.mono ?_
    rintro e w1 ⟨rfl, rfl⟩
    cases r
    · go_wp2
      go_ret
      exact ⟨rfl, rfl⟩
    · go_wp2
      go_ret
      exact ⟨rfl, rfl⟩
  · rw [sizedR_arg hV (fun h => hl h.1)]
    have hne : ((Z.length : Int) != (S.length : Int)) = true := by simp; omega
    clear hqs hV hr hr' hl
    go_enter Tryd.func14, Tryd.ntmps14
    go_wp2_with fail
    refine VV.out.mono ?_
    rintro e w1 ⟨rfl, rfl⟩
    go_wp2
    go_ret
    exact ⟨rfl, rfl⟩
/-- How many chunks. -/
def numsI (S Z : List Int) : List Int := (nums (S.map Int.toNat) (Z.map Int.toNat)).map Int.ofNat
theorem numsI_len {S Z : List Int} (h : Z.length = S.length) : (numsI S Z).length = S.length := by
  unfold numsI
  rw [List.length_map, nums_len (by rw [List.length_map, List.length_map, h]), List.length_map]
theorem numsI_nat (S Z : List Int) : (numsI S Z).map Int.toNat = nums (S.map Int.toNat) (Z.map Int.toNat) := by
  unfold numsI
  rw [List.map_map]
  exact (List.map_congr_left fun x _ => rfl).trans (List.map_id _)
theorem zs_pos {S Z : List Int} (h : Zs S Z) : ∀ z ∈ Z.map Int.toNat, 1 ≤ z := fun z hz => by
  obtain ⟨y, hy, rfl⟩ := List.mem_map.1 hz
  have := h.2 y hy; omega
theorem zs_len {S Z : List Int} (h : Zs S Z) : (Z.map Int.toNat).length = (S.map Int.toNat).length := by rw [List.length_map, List.length_map, h.1]
theorem numsI_VS {S Z : List Int} (h : VS S) (k : Zs S Z) : VS (numsI S Z) := by
  refine ⟨by rw [numsI_len k.1]; exact h.1, fun s hs => ?_, ?_⟩
  · obtain ⟨n, hn, rfl⟩ := List.mem_map.1 hs
    have h1 := nums_small (M := 1024) (zs_pos k) (fun s hs => by
      obtain ⟨y, hy, rfl⟩ := List.mem_map.1 hs
      have := h.2.1 y hy; omega) n hn
    exact ⟨Int.natCast_nonneg _, by show (n : Int) ≤ 1024; omega⟩
  · rw [numsI_nat]
    exact Nat.le_trans (nums_le (zs_pos k) (zs_len k)) h.2.2
theorem numsI_take {S Z : List Int} (hS : ∀ s ∈ S, 0 ≤ s) (hZ : Zs S Z) {k : Nat} (hk : k < S.length) (hk2 : k < Z.length) : (numsI S Z).take (k + 1) = (numsI S Z).take k ++ [(S[k] + Z[k] - 1) / Z[k]] := by
  have hl := numsI_len hZ.1
  rw [List.take_add_one, List.getElem?_eq_getElem (by omega)]
  congr 1
  show [_] = _
  congr 1
  have h1 := nums_at (S := S.map Int.toNat) (Z := Z.map Int.toNat) (j := k) (by rw [List.length_map]; exact hk) (by rw [List.length_map]; exact hk2)
  have hk3 : k < (nums (S.map Int.toNat) (Z.map Int.toNat)).length := by rw [nums_len (zs_len hZ), List.length_map]; exact hk
  rw [getD_map, getD_map, ← getD_zint hk, ← getD_zint hk2, List.getD_eq_getElem?_getD, List.getElem?_eq_getElem hk3] at h1
  have e1 := hS _ (List.getElem_mem hk)
  have e2 := hZ.2 _ (List.getElem_mem hk2)
  unfold numsI
  rw [List.getElem_map]
  simp only [Option.getD_some] at h1
  rw [h1]
  show (((S[k].toNat + Z[k].toNat - 1) / Z[k].toNat : Nat) : Int) = _
  have e3 : ((S[k].toNat + Z[k].toNat - 1 : Nat) : Int) = S[k] + Z[k] - 1 := by omega
  refine (show _ = ((S[k].toNat + Z[k].toNat - 1 : Nat) : Int) / ((Z[k].toNat : Nat) : Int) from rfl).trans ?_
  rw [e3, Int.toNat_of_nonneg (by omega)]
theorem new_int (w : World) (T : TypeId) (x : Int) (j : Nat) (u : Value) (h : [Value.int .i64 x][j]? = some u) : (w.alloc (.cells #[.int .i64 x] T)).cell? ((⟨w.heap.size, 0, none⟩ : Addr).add j) = some u := by
  have k := (Bk.new w T #[Value.int .i64 x]).cell (0 + j)
  rw [addr_mk, k]
  simpa using h
set_option maxRecDepth 100000 in
set_option maxHeartbeats 3200000 in
theorem numbers_any (S Z : List Int) (A A' : Option Addr) (c c' B B' : Nat) (w : World) (hV : VS S) (hZ : Zs S Z) (hr : Rd w B A (zints S)) (hr' : Rd w B' A' (zints Z)) (hB : B ≤ w.heap.size) (hB' : B' ≤ w.heap.size) :
    Calls Tryd.prog 18 #[.slice A S.length c, .slice A' Z.length c'] w fun e w' => Below w.heap.size w w' ∧ ∃ v, e = .returned v ∧ w'.ownsRow w.heap.size 3 1 v S.length (zints (numsI S Z)) := by
  obtain ⟨i0, hi0, hz0, hz1, hz2⟩ := info_parts Tryd.int_info
  have hl4 := hV.1
  have hlz := hZ.1
  have HT := Lib.hid (fun k (hk : k < S.length) (hk2 : k < Z.length) => numsI_take (fun s hs => (hV.2.1 s hs).1) hZ hk hk2)
  have HE := Lib.hid (show (numsI S Z).take S.length = numsI S Z from List.take_of_length_le (by rw [numsI_len hlz]; exact Nat.le_refl _))
  have HSB := Lib.hid hV.2.1
  have HZB := Lib.hid hZ.2
  have HR := Lib.hid (fun W (hW : Below w.heap.size w W) => hr.below (hW.mono hB))
  have HR' := Lib.hid (fun k (hk : k < Z.length) => show ∃ ad, A' = some ad ∧ ad.block < w.heap.size ∧ w.cell? (ad.add k) = some (.int .i64 Z[k]) from by
    obtain ⟨ad, e1, e2, e3⟩ := hr'.zint hk
    exact ⟨ad, e1, by omega, e3⟩)
  have HLZ := Lib.hid hlz
  clear hV hZ hr hr' hlz
  go_enter Tryd.func18, Tryd.ntmps18
  go_wp2_with fail
  go_loopw [5, 10] (fun v i wr => ∃ k : Nat, k ≤ S.length ∧ i = .int .i64 k ∧ wr.ownsRow w.heap.size 3 1 v k (zints ((numsI S Z).take k)) ∧ Below w.heap.size w wr) (fun _ i _ => S.length - (intOf i).toNat)
  case atStart => exact ⟨0, Nat.zero_le _, rfl, World.ownsRow_nil _ _ _ _, Below.refl _ _⟩
  case round =>
    obtain ⟨k, hk, rfl, hown, hB1⟩ := hrel
    by_cases hlt : k < S.length
    · have hlt' : k < Z.length := by rw [HLZ.out]; exact hlt
      obtain ⟨vA, vc, rfl⟩ := own_formV hown
      obtain ⟨ad, rfl, hab, hs⟩ := (HR.out wr hB1).zint hlt
      obtain ⟨ad', rfl, hab', hzw⟩ := HR'.out k hlt'
      have hab2 : (ad'.add k).block < w.heap.size := by rw [addr_block]; exact hab'
      have hz := (hB1.cell (p := ad'.add k) hab2).trans hzw
      have HTK := Lib.hid (HT.out k hlt hlt')
      have b1 := HSB.out _ (List.getElem_mem hlt)
      have b2 := HZB.out _ (List.getElem_mem hlt')
      generalize S[k] = s at *
      generalize Z[k] = z at *
      have w1' : IntKind.i64.wrap (s + z) = s + z := IntWalk.i64_in _ (by omega)
      have w2' : IntKind.i64.wrap (s + z - 1) = s + z - 1 := IntWalk.i64_in _ (by omega)
      have w5' : (s + z - 1).tdiv z = (s + z - 1) / z := Int.tdiv_eq_ediv_of_nonneg (by omega)
      have w6' : 0 ≤ (s + z - 1) / z := Int.ediv_nonneg (by omega) (by omega)
      have w7' : (s + z - 1) / z ≤ s + z - 1 := Int.ediv_le_self _ (by omega)
      have w4' : IntKind.i64.wrap ((s + z - 1) / z) = (s + z - 1) / z := IntWalk.i64_in _ (by omega)
      have hz0' : (z == 0) = false := by simp; omega
      have hz0'' : z ≠ 0 := by omega
      generalize hq : (s + z - 1) / z = q at *
      clear hq
      go_wp2_with fail
      refine wp_region_M 15 (by kernel_rfl) (fun Y => Y.cell? (ad'.add k) = some (.int .i64 z)) hz (fun hS0 => ?_)
      refine takeM (i := 0) (v := ?_) rfl (by kernel_rfl) (by decide) (by kernel_rfl) (by kernel_rfl) (by kernel_rfl) (fun _ _ _ h => h) (by rfl) (by assumption) ?_ ?_
      rotate_left
      · intro w hSw; (try dsimp only at hSw); go_simp <;> with_reducible rfl
      try simp only [Act.put, List.setIfInBounds_toArray, List.set_cons_zero, List.set_cons_succ]
      refine takeM (i := 1) (v := ?_) rfl (by kernel_rfl) (by decide) (by kernel_rfl) (by kernel_rfl) (by kernel_rfl) (fun _ _ _ h => h) (by rfl) (by assumption) ?_ ?_
      rotate_left
      · intro w hSw; (try dsimp only at hSw); go_simp <;> with_reducible rfl
      try simp only [Act.put, List.setIfInBounds_toArray, List.set_cons_zero, List.set_cons_succ]
      refine takeM (i := 2) (v := ?_) rfl (by kernel_rfl) (by decide) (by kernel_rfl) (by kernel_rfl) (by kernel_rfl) (fun _ _ _ h => h) (by rfl) (by assumption) ?_ ?_
      rotate_left
      · intro w hSw; (try dsimp only at hSw); go_simp <;> with_reducible rfl
      try simp only [Act.put, List.setIfInBounds_toArray, List.set_cons_zero, List.set_cons_succ]
      refine takeM (i := 3) (v := ?_) rfl (by kernel_rfl) (by decide) (by kernel_rfl) (by kernel_rfl) (by kernel_rfl) (fun _ _ _ h => h) (by rfl) (by assumption) ?_ ?_
      rotate_left
      · intro w hSw; (try dsimp only at hSw); go_simp <;> with_reducible rfl
      try simp only [Act.put, List.setIfInBounds_toArray, List.set_cons_zero, List.set_cons_succ]
      refine takeM (i := 4) (v := ?_) rfl (by kernel_rfl) (by decide) (by kernel_rfl) (by kernel_rfl) (by kernel_rfl) (fun _ _ _ h => h) (by rfl) (by assumption) ?_ ?_
      rotate_left
      · intro w hSw; (try dsimp only at hSw); go_simp <;> with_reducible rfl
      try simp only [Act.put, List.setIfInBounds_toArray, List.set_cons_zero, List.set_cons_succ]
      refine takeM (i := 5) (v := ?_) rfl (by kernel_rfl) (by decide) (by kernel_rfl) (by kernel_rfl) (by kernel_rfl) (fun _ _ _ h => h) (by rfl) (by assumption) ?_ ?_
      rotate_left
      · intro w hSw; (try dsimp only at hSw); go_simp <;> with_reducible rfl
      try simp only [Act.put, List.setIfInBounds_toArray, List.set_cons_zero, List.set_cons_succ]
      refine takeM (i := 6) (v := ?_) rfl (by kernel_rfl) (by decide) (by kernel_rfl) (by kernel_rfl) (by kernel_rfl) (fun _ _ _ h => h) (by rfl) (by assumption) ?_ ?_
      rotate_left
      · intro w hSw; (try dsimp only at hSw); go_simp <;> with_reducible rfl
      try simp only [Act.put, List.setIfInBounds_toArray, List.set_cons_zero, List.set_cons_succ]
      refine takeM (i := 7) (v := ?_) rfl (by kernel_rfl) (by decide) (by kernel_rfl) (by kernel_rfl) (by kernel_rfl) (fun _ _ _ h => h) (by rfl) (by assumption) ?_ ?_
      rotate_left
      · intro w hSw; (try dsimp only at hSw); go_simp <;> with_reducible rfl
      try simp only [Act.put, List.setIfInBounds_toArray, List.set_cons_zero, List.set_cons_succ]
      refine takeM (i := 8) (v := ?_) rfl (by kernel_rfl) (by decide) (by kernel_rfl) (by kernel_rfl) (by kernel_rfl) (fun _ _ _ h => h) (by rfl) (by assumption) ?_ ?_
      rotate_left
      · intro w hSw; (try dsimp only at hSw); go_simp <;> with_reducible rfl
      try simp only [Act.put, List.setIfInBounds_toArray, List.set_cons_zero, List.set_cons_succ]
      refine takeM (i := 9) (v := ?_) rfl (by kernel_rfl) (by decide) (by kernel_rfl) (by kernel_rfl) (by kernel_rfl) (fun _ _ _ h => h) (by rfl) (by assumption) ?_ ?_
      rotate_left
      · intro w hSw; (try dsimp only at hSw); go_simp <;> with_reducible rfl
      try simp only [Act.put, List.setIfInBounds_toArray, List.set_cons_zero, List.set_cons_succ]
      refine takeM (i := 10) (v := ?_) rfl (by kernel_rfl) (by decide) (by kernel_rfl) (by kernel_rfl) (by kernel_rfl) (fun _ _ _ h => h) (by rfl) (by assumption) ?_ ?_
      rotate_left
      · intro w hSw; (try dsimp only at hSw); go_simp <;> with_reducible rfl
      try simp only [Act.put, List.setIfInBounds_toArray, List.set_cons_zero, List.set_cons_succ]
      refine takeM (i := 11) (v := ?_) rfl (by kernel_rfl) (by decide) (by kernel_rfl) (by kernel_rfl) (by kernel_rfl) (fun _ _ _ h => h) (by rfl) (by assumption) ?_ ?_
      rotate_left
      · intro w hSw; (try dsimp only at hSw); go_simp <;> with_reducible rfl
      try simp only [Act.put, List.setIfInBounds_toArray, List.set_cons_zero, List.set_cons_succ]
      refine takeM (i := 12) (v := ?_) rfl (by kernel_rfl) (by decide) (by kernel_rfl) (by kernel_rfl) (by kernel_rfl) (fun _ _ _ h => h) (by rfl) (by assumption) ?_ ?_
      rotate_left
      · intro w hSw; (try dsimp only at hSw); go_simp <;> with_reducible rfl
      try simp only [Act.put, List.setIfInBounds_toArray, List.set_cons_zero, List.set_cons_succ]
      clear hS0
      have hB2 := hB1.drew.alloc hB1.drew.size (.cells #[.int .i64 q] 3)
      have hown0 : (wr.drew.alloc (.cells #[.int .i64 q] 3)).ownsRow w.heap.size 3 1 (.slice vA k vc) k (zints ((numsI S Z).take k)) := (show wr.drew.ownsRow _ _ _ _ _ _ from hown).alloc _
      refine stepM (i := 13) rfl (by kernel_rfl) (fun K0 hK0 => ?_)
      go_simp
      refine hK0.out _ _ (fun _ => (hB2.cell (p := ad'.add k) hab2).trans hzw) (fun _ => ?_)
      clear hK0 K0
      try simp only [Act.put, List.setIfInBounds_toArray, List.set_cons_zero, List.set_cons_succ]
      refine stepM (i := 14) rfl (by kernel_rfl) (fun K0 hK0 => ?_)
      try rw [if_pos (by rfl)]
      refine step_append_own (.tmp 15) (.tmp 28) 22 rfl w.heap.size 3 i0 (.int .i64 0) 1 8 Tryd.underlying22 hi0 hz0 hz1 hz2 rfl (by omega) (.slice vA k vc) k _ (by rfl) hown0 ⟨wr.drew.heap.size, 0, none⟩ 1 1 [.int .i64 q] (by rfl) (by rfl) (new_int wr.drew _ q) (zints_one [q]) (by unfold maxLen; omega) (by omega) hB2.size ?_
      intro v1 w8 hown1 hg1
      obtain ⟨A1, c1, rfl⟩ := own_formV hown1
      have hB3 := below_app hB2 hg1 hB2.size hown0 (Nat.le_refl _)
      have HO : Hid (w8.ownsRow w.heap.size 3 1 (.slice A1 (k + 1) c1) (k + 1) (zints ((numsI S Z).take (k + 1)))) := by
        show w8.ownsRow _ _ _ _ _ _
        rw [HTK.out, zints_app]; exact hown1
      dsimp only
      refine hK0.out _ _ (fun _ => (hB3.cell (p := ad'.add k) hab2).trans hzw) (fun _ => ?_)
      clear hK0 K0 hown0 hown1 hg1 hown
      try simp only [Act.put, List.setIfInBounds_toArray, List.set_cons_zero, List.set_cons_succ]
      refine stepM (i := 15) rfl (by kernel_rfl) (fun K0 hK0 => ?_)
      go_simp
      refine hK0.out _ _ (fun h => absurd rfl h) (fun _ => ?_)
      clear hK0 K0
      try simp only [Act.put, List.setIfInBounds_toArray, List.set_cons_zero, List.set_cons_succ]
      refine doneM (by kernel_rfl) ?_ _
      go_wp2
      go_roundw
      case rel => exact ⟨k + 1, by omega, by go_num, HO.out, hB3⟩
      case measure => simp [intOf]; omega
    · obtain rfl : k = S.length := by omega
      have HO : Hid (wr.ownsRow w.heap.size 3 1 u5 S.length (zints (numsI S Z))) := by
        have := hown
        rwa [HE.out] at this
      clear hown
      go_wp2
      go_ret
      exact ⟨hB1, _, rfl, HO.out⟩
end Go.Proofs.YtgnffedncjjkfaaDoor

namespace Go.Proofs.YtgnffedncjjkfaaDoor
open Go.RowKit Ix Ar

/-- What is said of the slab of a chunk. -/
noncomputable def boxR (S Z I : List Int) : List Cut × Int :=
  open Classical in if VS S then (if Zs S Z then (if InI (numsI S Z) I then (boxC (S.map Int.toNat) (Z.map Int.toNat) (I.map Int.toNat), 0) else ([], 61)) else ([], 2)) else ([], 60)
theorem boxR_sized {S Z : List Int} (I : List Int) (h : sizedR S Z ≠ 0) : boxR S Z I = ([], sizedR S Z) := by
  by_cases h1 : VS S
  · by_cases h2 : Zs S Z
    · exact absurd (sizedR_ok h1 h2) h
    · rw [sizedR_arg h1 h2]; unfold boxR; rw [if_pos h1, if_neg h2]
  · rw [sizedR_shape h1]; unfold boxR; rw [if_neg h1]
theorem sizedR_is {S Z : List Int} (h : sizedR S Z = 0) : VS S ∧ Zs S Z := by
  by_cases h1 : VS S
  · by_cases h2 : Zs S Z
    · exact ⟨h1, h2⟩
    · rw [sizedR_arg h1 h2] at h; cases h
  · rw [sizedR_shape h1] at h; cases h
theorem boxR_slab {S Z I : List Int} (h : VS S ∧ Zs S Z) (k : ¬ InI (numsI S Z) I) : boxR S Z I = ([], 61) := by unfold boxR; rw [if_pos h.1, if_pos h.2, if_neg k]
theorem boxR_ok {S Z I : List Int} (h : VS S ∧ Zs S Z) (k : InI (numsI S Z) I) : boxR S Z I = (boxC (S.map Int.toNat) (Z.map Int.toNat) (I.map Int.toNat), 0) := by unfold boxR; rw [if_pos h.1, if_pos h.2, if_pos k]
theorem InI.numsI {S Z I : List Int} (h : InI (numsI S Z) I) : Inside (nums (S.map Int.toNat) (Z.map Int.toNat)) (I.map Int.toNat) := by
  have := h.nats
  rwa [numsI_nat] at this
theorem box_take {S Z I : List Int} (hV : VS S) (hZ : Zs S Z) (h : InI (numsI S Z) I) {k : Nat} (h1 : k < S.length) (h2 : k < Z.length) (h3 : k < I.length) :
    (boxC (S.map Int.toNat) (Z.map Int.toNat) (I.map Int.toNat)).take (k + 1) = (boxC (S.map Int.toNat) (Z.map Int.toNat) (I.map Int.toNat)).take k ++ [(I[k] * Z[k], min Z[k] (S[k] - I[k] * Z[k]), 1)] ∧ 0 ≤ I[k] ∧ 0 ≤ I[k] * Z[k] ∧ I[k] * Z[k] < S[k] := by
  have e1 := (hV.2.1 _ (List.getElem_mem h1))
  have e2 := hZ.2 _ (List.getElem_mem h2)
  have e3 := h.2 k (by rw [numsI_len hZ.1]; exact h1)
  have hb := box_at (S := S.map Int.toNat) (Z := Z.map Int.toNat) (I := I.map Int.toNat) (j := k) (by rw [List.length_map]; exact h1) (by rw [List.length_map]; exact h2) (by rw [List.length_map]; exact h3)
  have hn := ((inside_iff _ _).1 h.numsI).2 k (by rw [nums_len (zs_len hZ), List.length_map]; exact h1)
  rw [nums_at (by rw [List.length_map]; exact h1) (by rw [List.length_map]; exact h2), getD_map, getD_map, getD_map, ← getD_zint h1, ← getD_zint h2, ← getD_zint h3] at hn
  rw [getD_map, getD_map, getD_map, ← getD_zint h1, ← getD_zint h2, ← getD_zint h3] at hb
  have hlt := num_lt (by omega) hn
  rw [← getD_zint h3] at e3
  have q0 : ((I[k].toNat * Z[k].toNat : Nat) : Int) = I[k] * Z[k] := by rw [Int.natCast_mul, Int.toNat_of_nonneg e3.1, Int.toNat_of_nonneg (by omega)]
  have q1 : 0 ≤ I[k] * Z[k] := Int.mul_nonneg e3.1 (by omega)
  have q2 : I[k] * Z[k] < S[k] := by rw [← q0]; omega
  refine ⟨?_, e3.1, q1, q2⟩
  have q3 : ((min Z[k].toNat (S[k].toNat - I[k].toNat * Z[k].toNat) : Nat) : Int) = min Z[k] (S[k] - I[k] * Z[k]) := by
    clear hb hn
    generalize I[k].toNat * Z[k].toNat = t at *
    generalize I[k] * Z[k] = p at *
    omega
  rw [List.take_add_one, hb, q3, q0]
  rfl
theorem new_cut (w : World) (T : TypeId) (a b c : Int) (j : Nat) (u : Value) (h : [Value.int .i64 a, .int .i64 b, .int .i64 c][j]? = some u) : (w.alloc (.cells #[.int .i64 a, .int .i64 b, .int .i64 c] T)).cell? ((⟨w.heap.size, 0, none⟩ : Addr).add j) = some u := by
  have k := (Bk.new w T #[Value.int .i64 a, .int .i64 b, .int .i64 c]).cell (0 + j)
  rw [addr_mk, k]
  simpa using h
theorem kut_one (c : Cut) : ∀ u ∈ krow [c], u.oneCell' = true := by
  intro u hu
  simp [krow] at hu
  rcases hu with rfl | rfl | rfl <;> rfl
theorem IsK.of_own' {w : World} {v : Value} {base : Nat} {T : TypeId} {n : Nat} {l : List Cut} (h : w.ownsRow base T 3 v n (krow l)) : IsK w w.heap.size v l := by
  have hl : l.length = n := by have := h.1; rw [krow_len] at this; omega
  rcases h.2 with ⟨rfl, rfl⟩ | ⟨g, cap, cur, rfl, _, _, hc, _⟩
  · obtain rfl : l = [] := List.eq_nil_of_length_eq_zero hl
    exact ⟨none, 0, rfl, Nat.le_refl _, fun h => absurd rfl h⟩
  · exact ⟨_, cap, by rw [hl], by omega, Rd.of_own h⟩
set_option maxRecDepth 100000 in
set_option maxHeartbeats 6400000 in
theorem box_any (S Z I : List Int) (vs vz vi : Value) (w : World) (hS : IsI w w.heap.size vs S) (hZ : IsI w w.heap.size vz Z) (hI : IsI w w.heap.size vi I) (hL : S.length ≤ maxLen) (hM : Z.length ≤ maxLen) :
    Calls Tryd.prog 8 #[vs, vz, vi] w fun e w' => Below w.heap.size w w' ∧ ∃ v, e = .returned (.tuple #[v, .int .i64 (boxR S Z I).2]) ∧ IsK w' w'.heap.size v (boxR S Z I).1 := by
  obtain ⟨A, c, rfl, hc⟩ := hS.form
  obtain ⟨A', c', rfl, hc'⟩ := hZ.form
  obtain ⟨Ai, ci, rfl, hci⟩ := hI.form
  have SZ := Lib.hid (sized_any S Z A A' c c' w.heap.size w.heap.size w hS.rd hZ.rd hL hM)
  by_cases h0 : sizedR S Z = 0
  rotate_left
  · rw [boxR_sized I h0]
    have hne : (sizedR S Z != 0) = true := by simp [h0]
    clear hS hZ hI hL hM hc hc' hci
    generalize sizedR S Z = e0 at *
    go_enter Tryd.func8, Tryd.ntmps8
    go_wp2_with fail
    refine SZ.out.mono ?_
    rintro e w1 ⟨rfl, rfl⟩
    go_wp2
    go_ret2
    exact ⟨Below.refl _ _, _, rfl, none, 0, rfl, Nat.le_refl _, fun h => absurd rfl h⟩
  have hVZ := sizedR_is h0
  have hV := hVZ.1
  have hZs := hVZ.2
  have h4 := hV.1
  have hlz := hZs.1
  rw [h0] at SZ
  have NB := Lib.hid (numbers_any S Z A A' c c' w.heap.size w.heap.size w hV hZs hS.rd hZ.rd (Nat.le_refl _) (Nat.le_refl _))
  obtain ⟨qi, hqi⟩ : ∃ b : Bool, b = true ↔ InI (numsI S Z) I := by classical exact ⟨decide _, decide_eq_true_iff⟩
  have hnl := numsI_len (S := S) (Z := Z) hlz
  have IN := Lib.hid (fun W (An : Option Addr) (cn : Nat) (hW : Below w.heap.size w W) (hn : Rd W W.heap.size An (zints (numsI S Z))) => show Calls Tryd.prog 20 #[.slice Ai I.length ci, .slice An S.length cn] W fun e w' => W = w' ∧ e = .returned (.bool qi) from by
    have h := inside_any (numsI S Z) I An Ai cn ci W.heap.size w.heap.size W hn (hI.rd.below hW) (by rw [hnl]; exact hL) qi hqi
    rw [hnl] at h
    exact h)
  cases hq : qi
  · have hno : ¬ InI (numsI S Z) I := fun h => by rw [hqi.2 h] at hq; cases hq
    rw [boxR_slab hVZ hno]
    subst hq
    clear hS hZ hI hL hM hc hc' hci hV hZs hVZ hqi hno h0 hlz
    go_enter Tryd.func8, Tryd.ntmps8
    go_wp2_with fail
    refine SZ.out.mono ?_
    rintro e w1 ⟨rfl, rfl⟩
    go_wp2_with fail
    refine NB.out.mono ?_
    rintro e w1 ⟨hb1, v1, rfl, hown⟩
    have hIn := IsI.of_own hown
    obtain ⟨An, cn, rfl, -⟩ := hIn.form
    have hrn := hIn.rd
    have IN1 := Lib.hid (IN.out w1 An cn hb1 hrn)
    rw [hnl]
    clear hown hIn hrn IN hnl
    go_wp2_with fail
    refine IN1.out.mono ?_
    rintro e w2 ⟨rfl, rfl⟩
    go_wp2
    go_ret2
    exact ⟨hb1, _, rfl, none, 0, rfl, Nat.le_refl _, fun h => absurd rfl h⟩
  have hIn := hqi.1 hq
  rw [boxR_ok hVZ hIn]
  subst hq
  obtain ⟨i0, hi0, hz0, hz1, hz2⟩ := info_parts Tryd.cut_info
  have hIl : I.length = S.length := by rw [hIn.1, hnl]
  have HTK := Lib.hid (fun k (h1 : k < S.length) (h2 : k < Z.length) (h3 : k < I.length) => box_take hV hZs hIn h1 h2 h3)
  have HE := Lib.hid (show (boxC (S.map Int.toNat) (Z.map Int.toNat) (I.map Int.toNat)).take I.length = boxC (S.map Int.toNat) (Z.map Int.toNat) (I.map Int.toNat) from List.take_of_length_le (by rw [box_len (zs_pos hZs) (zs_len hZs) hIn.numsI, List.length_map, hIl]; exact Nat.le_refl _))
  have HSB := Lib.hid hV.2.1
  have HZB := Lib.hid hZs.2
  have HR := Lib.hid (fun k (hk : k < S.length) => show ∃ ad, A = some ad ∧ ad.block < w.heap.size ∧ w.cell? (ad.add k) = some (.int .i64 S[k]) from by
    obtain ⟨ad, e1, e2, e3⟩ := hS.rd.zint hk
    exact ⟨ad, e1, e2, e3⟩)
  have HR' := Lib.hid (fun k (hk : k < Z.length) => show ∃ ad, A' = some ad ∧ ad.block < w.heap.size ∧ w.cell? (ad.add k) = some (.int .i64 Z[k]) from by
    obtain ⟨ad, e1, e2, e3⟩ := hZ.rd.zint hk
    exact ⟨ad, e1, e2, e3⟩)
  have HRi := Lib.hid (fun W (hW : Below w.heap.size w W) => hI.rd.below hW)
  have HLZ := Lib.hid hlz
  have HIL := Lib.hid hIl
  have hI4 : I.length ≤ 4 := by omega
  clear hS hZ hI hL hM hc hc' hci hV hZs hVZ hqi h0 hIn hlz hIl
  generalize boxC (S.map Int.toNat) (Z.map Int.toNat) (I.map Int.toNat) = C at *
  go_enter Tryd.func8, Tryd.ntmps8
  go_wp2_with fail
  refine SZ.out.mono ?_
  rintro e w1 ⟨rfl, rfl⟩
  go_wp2_with fail
  refine NB.out.mono ?_
  rintro e w1 ⟨hb1, v1, rfl, hown⟩
  have hIn := IsI.of_own hown
  obtain ⟨An, cn, rfl, -⟩ := hIn.form
  have hrn := hIn.rd
  have IN1 := Lib.hid (IN.out w1 An cn hb1 hrn)
  rw [hnl]
  clear hown hIn hrn IN SZ NB hnl
  go_wp2_with fail
  refine IN1.out.mono ?_
  rintro e w2 ⟨rfl, rfl⟩
  clear IN1
  go_wp2_with fail
  go_loopw [9, 27] (fun v i wr => ∃ k : Nat, k ≤ I.length ∧ i = .int .i64 k ∧ wr.ownsRow w.heap.size 45 3 v k (krow (C.take k)) ∧ Below w.heap.size w wr) (fun _ i _ => I.length - (intOf i).toNat)
  case atStart => exact ⟨0, Nat.zero_le _, rfl, World.ownsRow_nil _ _ _ _, hb1⟩
  case round =>
    clear hb1
    obtain ⟨k, hk, rfl, hown, hB1⟩ := hrel
    by_cases hlt : k < I.length
    · have h1 : k < S.length := by rw [← HIL.out]; exact hlt
      have h2 : k < Z.length := by rw [HLZ.out]; exact h1
      obtain ⟨vA, vc, rfl⟩ := own_formV hown
      obtain ⟨ad, rfl, hab, hsw⟩ := HR.out k h1
      obtain ⟨ad', rfl, hab', hzw⟩ := HR'.out k h2
      obtain ⟨adi, rfl, habi, hiw⟩ := (HRi.out wr hB1).zint hlt
      have hab2 : (ad.add k).block < w.heap.size := by rw [addr_block]; exact hab
      have hab2' : (ad'.add k).block < w.heap.size := by rw [addr_block]; exact hab'
      have hz := (hB1.cell (p := ad'.add k) hab2').trans hzw
      have hs := (hB1.cell (p := ad.add k) hab2).trans hsw
      obtain ⟨t1, t2, t3, t4⟩ := HTK.out k h1 h2 hlt
      have HT := Lib.hid t1
      have b1 := HSB.out _ (List.getElem_mem h1)
      have b2 := HZB.out _ (List.getElem_mem h2)
      clear t1
      generalize S[k] = s at *
      generalize Z[k] = z at *
      generalize I[k] = y at *
      have w1' : IntKind.i64.wrap (y * z) = y * z := IntWalk.i64_in _ (by omega)
      obtain ⟨st, hst⟩ : ∃ st, st = y * z := ⟨_, rfl⟩
      rw [← hst] at HT t3 t4
      replace w1' : IntKind.i64.wrap (y * z) = st := w1'.trans hst.symm
      clear hst
      have w2' : IntKind.i64.wrap (s - st) = s - st := IntWalk.i64_in _ (by omega)
      go_wp2_with fail
      refine wp_region_M 16 (by kernel_rfl) (fun Y => Y.cell? (ad'.add k) = some (.int .i64 z) ∧ Y.cell? (ad.add k) = some (.int .i64 s)) ⟨hz, hs⟩ (fun hS0 => ?_)
      refine takeM (i := 0) (v := ?_) rfl (by kernel_rfl) (by decide) (by kernel_rfl) (by kernel_rfl) (by kernel_rfl) (fun _ _ _ h => h) (by rfl) (by assumption) ?_ ?_
      rotate_left
      · intro w hSw; (try dsimp only at hSw); go_simp <;> with_reducible rfl
      try simp only [Act.put, List.setIfInBounds_toArray, List.set_cons_zero, List.set_cons_succ]
      refine takeM (i := 1) (v := ?_) rfl (by kernel_rfl) (by decide) (by kernel_rfl) (by kernel_rfl) (by kernel_rfl) (fun _ _ _ h => h) (by rfl) (by assumption) ?_ ?_
      rotate_left
      · intro w hSw; (try dsimp only at hSw); go_simp <;> with_reducible rfl
      try simp only [Act.put, List.setIfInBounds_toArray, List.set_cons_zero, List.set_cons_succ]
      refine takeM (i := 2) (v := ?_) rfl (by kernel_rfl) (by decide) (by kernel_rfl) (by kernel_rfl) (by kernel_rfl) (fun _ _ _ h => h) (by rfl) (by assumption) ?_ ?_
      rotate_left
      · intro w hSw; (try dsimp only at hSw); go_simp <;> with_reducible rfl
      try simp only [Act.put, List.setIfInBounds_toArray, List.set_cons_zero, List.set_cons_succ]
      refine takeM (i := 3) (v := ?_) rfl (by kernel_rfl) (by decide) (by kernel_rfl) (by kernel_rfl) (by kernel_rfl) (fun _ _ _ h => h) (by rfl) (by assumption) ?_ ?_
      rotate_left
      · intro w hSw; (try dsimp only at hSw); go_simp <;> with_reducible rfl
      try simp only [Act.put, List.setIfInBounds_toArray, List.set_cons_zero, List.set_cons_succ]
      refine takeM (i := 4) (v := ?_) rfl (by kernel_rfl) (by decide) (by kernel_rfl) (by kernel_rfl) (by kernel_rfl) (fun _ _ _ h => h) (by rfl) (by assumption) ?_ ?_
      rotate_left
      · intro w hSw; (try dsimp only at hSw); go_simp <;> with_reducible rfl
      try simp only [Act.put, List.setIfInBounds_toArray, List.set_cons_zero, List.set_cons_succ]
      refine takeM (i := 5) (v := ?_) rfl (by kernel_rfl) (by decide) (by kernel_rfl) (by kernel_rfl) (by kernel_rfl) (fun _ _ _ h => h) (by rfl) (by assumption) ?_ ?_
      rotate_left
      · intro w hSw; (try dsimp only at hSw); go_simp <;> with_reducible rfl
      try simp only [Act.put, List.setIfInBounds_toArray, List.set_cons_zero, List.set_cons_succ]
      refine takeM (i := 6) (v := ?_) rfl (by kernel_rfl) (by decide) (by kernel_rfl) (by kernel_rfl) (by kernel_rfl) (fun _ _ _ h => h) (by rfl) (by assumption) ?_ ?_
      rotate_left
      · intro w hSw; (try dsimp only at hSw); go_simp <;> with_reducible rfl
      try simp only [Act.put, List.setIfInBounds_toArray, List.set_cons_zero, List.set_cons_succ]
      refine takeM (i := 7) (v := ?_) rfl (by kernel_rfl) (by decide) (by kernel_rfl) (by kernel_rfl) (by kernel_rfl) (fun _ _ _ h => h) (by rfl) (by assumption) ?_ ?_
      rotate_left
      · intro w hSw; (try dsimp only at hSw); go_simp <;> with_reducible rfl
      try simp only [Act.put, List.setIfInBounds_toArray, List.set_cons_zero, List.set_cons_succ]
      refine takeM (i := 8) (v := ?_) rfl (by kernel_rfl) (by decide) (by kernel_rfl) (by kernel_rfl) (by kernel_rfl) (fun _ _ _ h => h) (by rfl) (by assumption) ?_ ?_
      rotate_left
      · intro w hSw; (try dsimp only at hSw); go_simp <;> with_reducible rfl
      try simp only [Act.put, List.setIfInBounds_toArray, List.set_cons_zero, List.set_cons_succ]
      refine takeM (i := 9) (v := ?_) rfl (by kernel_rfl) (by decide) (by kernel_rfl) (by kernel_rfl) (by kernel_rfl) (fun _ _ _ h => h) (by rfl) (by assumption) ?_ ?_
      rotate_left
      · intro w hSw; (try dsimp only at hSw); go_simp <;> with_reducible rfl
      try simp only [Act.put, List.setIfInBounds_toArray, List.set_cons_zero, List.set_cons_succ]
      refine takeM (i := 10) (v := ?_) rfl (by kernel_rfl) (by decide) (by kernel_rfl) (by kernel_rfl) (by kernel_rfl) (fun _ _ _ h => h) (by rfl) (by assumption) ?_ ?_
      rotate_left
      · intro w hSw; (try dsimp only at hSw); go_simp <;> with_reducible rfl
      try simp only [Act.put, List.setIfInBounds_toArray, List.set_cons_zero, List.set_cons_succ]
      refine takeM (i := 11) (v := ?_) rfl (by kernel_rfl) (by decide) (by kernel_rfl) (by kernel_rfl) (by kernel_rfl) (fun _ _ _ h => h) (by rfl) (by assumption) ?_ ?_
      rotate_left
      · intro w hSw; (try dsimp only at hSw); go_simp <;> with_reducible rfl
      try simp only [Act.put, List.setIfInBounds_toArray, List.set_cons_zero, List.set_cons_succ]
      refine takeM (i := 12) (v := ?_) rfl (by kernel_rfl) (by decide) (by kernel_rfl) (by kernel_rfl) (by kernel_rfl) (fun _ _ _ h => h) (by rfl) (by assumption) ?_ ?_
      rotate_left
      · intro w hSw; (try dsimp only at hSw); go_simp <;> with_reducible rfl
      try simp only [Act.put, List.setIfInBounds_toArray, List.set_cons_zero, List.set_cons_succ]
      refine takeM (i := 13) (v := ?_) rfl (by kernel_rfl) (by decide) (by kernel_rfl) (by kernel_rfl) (by kernel_rfl) (fun _ _ _ h => h) (by rfl) (by assumption) ?_ ?_
      rotate_left
      · intro w hSw; (try dsimp only at hSw); go_simp <;> with_reducible rfl
      try simp only [Act.put, List.setIfInBounds_toArray, List.set_cons_zero, List.set_cons_succ]
      clear hS0
      have hB2 := hB1.drew.alloc hB1.drew.size (.cells #[.int .i64 st, .int .i64 (min z (s - st)), .int .i64 1] 45)
      have hown0 : (wr.drew.alloc (.cells #[.int .i64 st, .int .i64 (min z (s - st)), .int .i64 1] 45)).ownsRow w.heap.size 45 3 (.slice vA k vc) k (krow (C.take k)) := (show wr.drew.ownsRow _ _ _ _ _ _ from hown).alloc _
      refine stepM (i := 14) rfl (by kernel_rfl) (fun K0 hK0 => ?_)
      go_simp
      refine hK0.out _ _ (fun _ => ⟨(hB2.cell (p := ad'.add k) hab2').trans hzw, (hB2.cell (p := ad.add k) hab2).trans hsw⟩) (fun _ => ?_)
      clear hK0 K0
      try simp only [Act.put, List.setIfInBounds_toArray, List.set_cons_zero, List.set_cons_succ]
      refine stepM (i := 15) rfl (by kernel_rfl) (fun K0 hK0 => ?_)
      try rw [if_pos (by rfl)]
      refine step_append_own (.tmp 38) (.tmp 52) 23 rfl w.heap.size 45 i0 (.agg #[.int .i64 0, .int .i64 0, .int .i64 0]) 3 24 Tryd.underlying23 hi0 hz0 hz1 hz2 rfl (by omega) (.slice vA k vc) k _ (by rfl) hown0 ⟨wr.drew.heap.size, 0, none⟩ 1 1 [.int .i64 st, .int .i64 (min z (s - st)), .int .i64 1] (by rfl) (by rfl) (new_cut wr.drew _ st (min z (s - st)) 1) (kut_one (st, min z (s - st), 1)) (by unfold maxLen; omega) (by omega) hB2.size ?_
      intro v1 w8 hown1 hg1
      obtain ⟨A1, c1, rfl⟩ := own_formV hown1
      have hB3 := below_app hB2 hg1 hB2.size hown0 (Nat.le_refl _)
      have HO : Hid (w8.ownsRow w.heap.size 45 3 (.slice A1 (k + 1) c1) (k + 1) (krow (C.take (k + 1)))) := by
        show w8.ownsRow _ _ _ _ _ _
        rw [HT.out, krow_app]; exact hown1
      dsimp only
      refine hK0.out _ _ (fun _ => ⟨(hB3.cell (p := ad'.add k) hab2').trans hzw, (hB3.cell (p := ad.add k) hab2).trans hsw⟩) (fun _ => ?_)
      clear hK0 K0 hown0 hown1 hg1 hown
      try simp only [Act.put, List.setIfInBounds_toArray, List.set_cons_zero, List.set_cons_succ]
      refine stepM (i := 16) rfl (by kernel_rfl) (fun K0 hK0 => ?_)
      go_simp
      refine hK0.out _ _ (fun h => absurd rfl h) (fun _ => ?_)
      clear hK0 K0
      try simp only [Act.put, List.setIfInBounds_toArray, List.set_cons_zero, List.set_cons_succ]
      refine doneM (by kernel_rfl) ?_ _
      go_wp2
      go_roundw
      case rel => exact ⟨k + 1, by omega, by go_num, HO.out, hB3⟩
      case measure => simp [intOf]; omega
    · obtain rfl : k = I.length := by omega
      have HO : Hid (wr.ownsRow w.heap.size 45 3 u9 I.length (krow C)) := by
        have := hown
        rwa [HE.out] at this
      clear hown
      go_wp2
      go_ret2
      exact ⟨hB1, _, rfl, IsK.of_own' HO.out⟩
end Go.Proofs.YtgnffedncjjkfaaDoor

namespace Go.Proofs.YtgnffedncjjkfaaDoor
open Go.RowKit Ix Ar

/-- The indexes of all chunks. -/
def chunkL (S Z : List Int) : List (List Int) := (List.range (Ix.prod (nums (S.map Int.toNat) (Z.map Int.toNat)))).map fun k => (idx (nums (S.map Int.toNat) (Z.map Int.toNat)) k).map Int.ofNat
noncomputable def chunksR (S Z : List Int) : List (List Int) × Int := if sizedR S Z = 0 then (chunkL S Z, 0) else ([], sizedR S Z)
theorem chunksR_ok {S Z : List Int} (h : sizedR S Z = 0) : chunksR S Z = (chunkL S Z, 0) := by unfold chunksR; rw [if_pos h]
theorem chunksR_no {S Z : List Int} (h : sizedR S Z ≠ 0) : chunksR S Z = ([], sizedR S Z) := by unfold chunksR; rw [if_neg h]
/-- The first k of the indexes. -/
def ixs (nn : List Nat) (k : Nat) : List (List Int) := (List.range k).map fun k => (idx nn k).map Int.ofNat
theorem ixs_next (nn : List Nat) (k : Nat) : ixs nn (k + 1) = ixs nn k ++ [(idx nn k).map Int.ofNat] := by unfold ixs; rw [List.range_succ, List.map_append]; rfl
theorem ixs_len (nn : List Nat) (k : Nat) : (ixs nn k).length = k := by simp [ixs]
/-- Chunks under way. -/
structure ChkAt (w : World) (nn : List Nat) (lo ob X k : Nat) (W : World) : Prop where
  below : Below w.heap.size w W
  out : ∃ v, Bk W ob 28 #[v] ∧ OwnG (some X) W lo v (ixs nn k)
  size : lo ≤ W.heap.size
  ord : w.heap.size ≤ ob ∧ ob < lo
theorem ChkAt.grown {w W W' : World} {nn : List Nat} {lo ob X k : Nat} (h : ChkAt w nn lo ob X k W) {row : Option Nat} (hg : W.grownBy W' row) (hX : lo ≤ X) (hr : ∀ r, row = some r → r = X ∨ (lo ≤ r ∧ ∃ o : Obj, W.heap[r]? = some o ∧ o.isCells = false)) : ChkAt w nn lo ob X k W' := by
  obtain ⟨l1, l2⟩ := h.ord
  have hlo : ∀ r, row = some r → lo ≤ r := fun r e => by rcases hr r e with rfl | ⟨h2, _⟩ <;> omega
  obtain ⟨v, h1, h2⟩ := h.out
  refine ⟨h.below.grown hg h.below.size (fun r e => by have := hlo r e; omega), ⟨v, h1.grown hg (fun e => by have := hlo ob e.symm; omega), h2.grown hg (fun r e => ?_)⟩, Nat.le_trans h.size hg.size, h.ord⟩
  rcases hr r e with rfl | ⟨_, h3⟩
  · exact .inl rfl
  · exact .inr h3
theorem ChkAt.next {w W W' : World} {nn : List Nat} {lo ob X k : Nat} (h : ChkAt w nn lo ob X k W) (hb : Below W.heap.size W W') : ChkAt w nn lo ob X k W' := by
  obtain ⟨v, h1, h2⟩ := h.out
  exact ⟨h.below.trans (hb.mono h.below.size), ⟨v, h1.next' hb, h2.keep hb⟩, Nat.le_trans h.size hb.size, h.ord⟩
set_option maxRecDepth 100000 in
set_option maxHeartbeats 6400000 in
theorem chunks_any (S Z : List Int) (vs vz : Value) (w : World) (hS : IsI w w.heap.size vs S) (hZ : IsI w w.heap.size vz Z) (hL : S.length ≤ maxLen) (hM : Z.length ≤ maxLen) :
    Calls Tryd.prog 7 #[vs, vz] w fun e w' => Below w.heap.size w w' ∧ ∃ v, e = .returned (.tuple #[v, .int .i64 (chunksR S Z).2]) ∧ IsG w' w'.heap.size v (chunksR S Z).1 := by
  obtain ⟨A, c, rfl, hc⟩ := hS.form
  obtain ⟨A', c', rfl, hc'⟩ := hZ.form
  have SZ := Lib.hid (sized_any S Z A A' c c' w.heap.size w.heap.size w hS.rd hZ.rd hL hM)
  by_cases h0 : sizedR S Z = 0
  rotate_left
  · rw [chunksR_no h0]
    have hne : (sizedR S Z != 0) = true := by simp [h0]
    clear hS hZ hL hM hc hc'
    generalize sizedR S Z = e0 at *
    go_enter Tryd.func7, Tryd.ntmps7
    go_wp2_with fail
    refine SZ.out.mono ?_
    rintro e w1 ⟨rfl, rfl⟩
    go_wp2
    go_ret2
    exact ⟨Below.refl _ _, _, rfl, IsG.nil _ _⟩
  have hVZ := sizedR_is h0
  rw [chunksR_ok h0]
  rw [h0] at SZ
  have hV := hVZ.1
  have hZs := hVZ.2
  have h4 := hV.1
  have hlz := hZs.1
  have hnV := numsI_VS hV hZs
  have hnl := numsI_len (S := S) (Z := Z) hlz
  have NB := Lib.hid (fun W (hW : Below w.heap.size w W) => numbers_any S Z A A' c c' w.heap.size w.heap.size W hV hZs (hS.rd.below hW) (hZ.rd.below hW) hW.size hW.size)
  obtain ⟨nn, hnn⟩ : ∃ nn, nn = nums (S.map Int.toNat) (Z.map Int.toNat) := ⟨_, rfl⟩
  have hni : (numsI S Z).map Int.toNat = nn := by rw [numsI_nat, hnn]
  have hsz : Sz4 nn := by have := hnV.sz; rwa [hni] at this
  have hzn : zints (numsI S Z) = ints .i64 nn := by rw [hnV.cells, hni]
  have hnl2 : nn.length = S.length := by rw [← hni, List.length_map, hnl]
  have hch : chunkL S Z = ixs nn (Ix.prod nn) := by unfold chunkL ixs; rw [hnn]
  obtain ⟨N, hN⟩ : ∃ N, N = Ix.prod nn := ⟨_, rfl⟩
  have hN2 : N ≤ 4096 := by rw [hN, ← hni]; exact hnV.2.2
  rw [hch, ← hN]
  have HN := Lib.hid hN
  have HNL := Lib.hid hnl2
  have hn4 : nn.length ≤ 4 := by omega
  rw [hzn] at NB
  clear hS hZ hL hM hc hc' hV hZs hVZ hnV hnn hni hch hzn h0 hnl hN hlz hnl2
  refine (callsIn_wide (n := 5)).1 ?_
  refine callsIn_of_wp_marks Tryd.func7 rfl trivial ?_ rfl
  simp only [Tryd.ntmps7, List.size_toArray, List.length_cons, List.length_nil, Nat.reduceAdd, Nat.reduceSub, Array.replicate_succ, Array.replicate_zero, List.push_toArray, List.append_toArray, List.nil_append, List.cons_append]
  gi_wp2_with fail
  refine ⟨trivial, (callsIn_wide.2 SZ.out).mono ?_⟩
  rintro e w1 ⟨rfl, rfl⟩
  gi_wp2_with fail
  have hB1 := below_alloc w (.cells #[.slice none 0 0] 28)
  have k1 := Bk.new w 28 #[Value.slice none 0 0]
  refine ⟨trivial, (callsIn_wide.2 (NB.out _ hB1)).mono ?_⟩
  have hs1 : (w.alloc (.cells #[.slice none 0 0] 28)).heap.size = w.heap.size + 1 := by simp
  generalize (w.alloc (.cells #[.slice none 0 0] 28)) = w1 at *
  rintro e w2 ⟨hb2, v9, rfl, hown⟩
  rw [← HNL.out] at hown
  obtain ⟨A9, c9, rfl⟩ := own_formV hown
  have hrd := Rd.of_own hown
  have hB2 := hB1.trans (hb2.mono hB1.size)
  replace k1 := k1.next' hb2
  have hs2 := hb2.size
  clear hown hb2 SZ NB
  gi_wp2_with fail
  refine ⟨trivial, (callsIn_wide.2 (indexes_any A9 nn.length c9 _)).mono ?_⟩
  rintro e w4 ⟨rfl, rfl⟩
  have hB4 := hB2.alloc hB2.size (.cells #[.slice A9 nn.length c9] 22)
  have kbx := Bk.new w2 22 #[Value.slice A9 nn.length c9]
  replace k1 := k1.alloc (.cells #[.slice A9 nn.length c9] 22)
  have hr4 := hrd.alloc (Nat.le_refl _) (.cells #[.slice A9 nn.length c9] 22)
  have hs4 : (w2.alloc (.cells #[.slice A9 nn.length c9] 22)).heap.size = w2.heap.size + 1 := by simp
  clear hrd
  gi_wp2_with fail
  generalize w2.alloc (.cells #[.slice A9 nn.length c9] 22) = w4 at *
  generalize w2.heap.size = m2 at *
  have eI : idxArgs nn = fun X k => #[.int .i64 (k : Int), .slice (some ⟨X, 0, none⟩) nn.length nn.length] := rfl
  have G := indexes1_gives nn A9 c9 m2 m2 4 w4 (by omega) hsz (by omega) (by omega) (kbx.cell 0) hr4
  rw [← HN.out, eI] at G
  have hpos : w.heap.size < m2 := by omega
  have M0 : ∀ X, ChkAt w nn w4.heap.size w.heap.size X 0 w4 := fun X => ⟨hB4, ⟨_, k1, OwnG.nil _ _ _⟩, Nat.le_refl _, Nat.le_refl _, by omega⟩
  clear hB4 k1 hr4 kbx eI hB1 hB2
  refine wpIn_range_idx (n := 5) rfl (by omega) (gf := 31) (lb := #[.pointer (some ⟨m2, 0, none⟩)]) rfl trivial (enters_of Tryd.func31 (by kernel_rfl) rfl) G (Below.refl _ _) (fun _ _ => rfl)
    (fun X k A l o o' _ h1 h2 h3 => h1.put o' h2 h3)
    (fun X k W => w4.heap.size ≤ X → ChkAt w nn w4.heap.size w.heap.size X k W)
    (fun X k A B row hX h1 hg hr hlX => (h1 hlX).grown hg hlX hr)
    (fun X r hlX => ((M0 X).next (below_alloc _ _)).next (below_alloc _ _))
    (fun X k => { tmps := #[.slice A S.length c, .slice A' Z.length c', undef, undef, .slice none 0 0, .int .i64 0, .int .i64 0, .pointer (some ⟨w.heap.size, 0, none⟩), undef, .slice (some ⟨X, 0, none⟩) nn.length nn.length, .slice A S.length c, .slice A' Z.length c', .int .i64 0, .int .i64 0, .bool false, undef, .slice A S.length c, .slice A' Z.length c',
      .slice A9 nn.length c9, .func (.func 31) #[] #[.pointer (some ⟨m2, 0, none⟩)], .int .i64 (k : Int), .slice (some ⟨X, 0, none⟩) nn.length nn.length, undef, undef, undef, undef, undef, undef], defers := [] }) ?assign ?body ?done
  case assign =>
    intro l X k W K hK
    gi_wp2
    rw [Oper.semAt_some _ _ _ (by intro c h; cases h)]
    go_simp
    gi_wp2
    exact hK
  case body =>
    rintro l X k W hl hX hM hKp hlt
    have hM := hM (by omega)
    obtain ⟨v, k1, hO⟩ := hM.out
    obtain ⟨vA, vc, rfl⟩ := hO.form
    have hsw := hM.size
    obtain ⟨o1, o2⟩ := hM.ord
    have hlX := hKp.1.lt
    have c0 : W.cell? ⟨w.heap.size, 0, none⟩ = some (.slice vA _ vc) := k1.cell 0
    rw [ixs_len] at c0 k1 hO
    have CL := Lib.hid (clonez_any (some ⟨X, 0, none⟩) nn.length nn.length ((idx nn k).map Int.ofNat) W.drew (by rw [List.length_map, idx_len]) (by omega) (by rw [zints_nat]; simpa using hKp.1.drew.rd))
    have HIX := Lib.hid (ixs_next nn k)
    have HIL := Lib.hid (show ((idx nn k).map Int.ofNat).length = nn.length from by rw [List.length_map, idx_len])
    generalize (idx nn k).map Int.ofNat = y at *
    refine wpIn_block ?_
    refine region_roundM 5 (by kernel_rfl) (by kernel_rfl) (fun ⟨_, _, h⟩ => h) (fun Y => Y.cell? ⟨w.heap.size, 0, none⟩ = some (.slice vA k vc)) c0 (fun hS0 => ?_)
    refine takeM (i := 0) (v := ?_) rfl (by kernel_rfl) (by decide) (by kernel_rfl) (by kernel_rfl) (by kernel_rfl) (fun _ _ _ h => h) (by rfl) (by assumption) ?_ ?_
    rotate_left
    · intro w hSw; (try dsimp only at hSw); go_simp <;> with_reducible rfl
    try simp only [Act.put, List.setIfInBounds_toArray, List.set_cons_zero, List.set_cons_succ]
    refine takeM (i := 1) (v := ?_) rfl (by kernel_rfl) (by decide) (by kernel_rfl) (by kernel_rfl) (by kernel_rfl) (fun _ _ _ h => h) (by rfl) (by assumption) ?_ ?_
    rotate_left
    · intro w hSw; (try dsimp only at hSw); go_simp <;> with_reducible rfl
    try simp only [Act.put, List.setIfInBounds_toArray, List.set_cons_zero, List.set_cons_succ]
    clear hS0
    refine stepM (i := 2) rfl (by kernel_rfl) (fun K0 hK0 => ?_)
    go_simp
    refine CL.out.mono ?_
    rintro e w5 ⟨hb5, v5, rfl, hown5⟩
    obtain ⟨A5, c5, rfl⟩ := own_formV hown5
    have hI5 := IsI.of_own hown5
    have hb6 := below_alloc w5 (.cells #[.slice A5 nn.length c5] 22)
    have hb56 : Below W.heap.size W (w5.alloc (.cells #[.slice A5 nn.length c5] 22)) := (show Below W.heap.size W W.drew from (Below.refl _ W).drew).trans (hb5.trans (hb6.mono hb5.size))
    have hoff : ∀ Y, some X = some Y → offX (.slice A5 nn.length c5) Y ∧ Y < (w5.alloc (.cells #[.slice A5 nn.length c5] 22)).heap.size := fun Y e => by
      injection e with e
      subst e
      exact ⟨own_offX hown5 (by simpa using hlX), by have := hb56.size; omega⟩
    have c6 : (w5.alloc (.cells #[.slice A5 nn.length c5] 22)).cell? ⟨w5.heap.size, 0, none⟩ = some (.slice A5 nn.length c5) := (Bk.new w5 22 #[Value.slice A5 nn.length c5]).cell 0
    have hI6 := hI5.next hb6
    have k6 := k1.next' hb56
    have hO6 := hO.keep hb56
    have c60 : (w5.alloc (.cells #[.slice A5 nn.length c5] 22)).cell? ⟨w.heap.size, 0, none⟩ = some (.slice vA k vc) := k6.cell 0
    have c50 : w5.cell? ⟨w.heap.size, 0, none⟩ = some (.slice vA k vc) := ((show Bk W.drew _ _ _ from k1).next' hb5).cell 0
    have hz6 := hb56.size
    obtain ⟨_, _, _, _, hav6, _⟩ := id hO6
    dsimp only
    refine hK0.out _ _ (fun _ => c50) (fun _ => ?_)
    clear hK0 K0 CL hI5 c50
    try simp only [Act.put, List.setIfInBounds_toArray, List.set_cons_zero, List.set_cons_succ]
    refine stepM (i := 3) rfl (by kernel_rfl) (fun K0 hK0 => ?_)
    go_simp
    refine hK0.out _ _ (fun _ => c60) (fun _ => ?_)
    clear hK0 K0
    try simp only [Act.put, List.setIfInBounds_toArray, List.set_cons_zero, List.set_cons_succ]
    refine stepM (i := 4) rfl (by kernel_rfl) (fun K0 hK0 => ?_)
    try rw [if_pos (by rfl)]
    refine step_append_list (.tmp 22) (.tmp 25) rfl (some X) w4.heap.size (.slice vA k vc) (ixs nn k) (by rfl) hO6 (by omega) (by rw [ixs_len]; omega) ⟨w5.heap.size, 0, none⟩ y (.slice A5 nn.length c5) (by rfl) c6 hI6 hoff ?_
    intro v8 w8 hO8 hg8 hk8 hb8 hn8
    rw [← HIX.out] at hO8
    obtain ⟨A1, c1, e8⟩ := hO8.form
    rw [ixs_len] at e8
    subst e8
    have hne8 : some w.heap.size ≠ (Value.slice vA k vc).ownBlock := fun e => by have := (hb8 _ e.symm).1; omega
    have k8 := k6.grown hg8 hne8
    have c8 : w8.cell? ⟨w.heap.size, 0, none⟩ = some (.slice vA k vc) := k8.cell 0
    have f8 := k8.frozen 0
    dsimp only
    refine hK0.out _ _ (fun _ => c8) (fun _ => ?_)
    clear hK0 K0
    try simp only [Act.put, List.setIfInBounds_toArray, List.set_cons_zero, List.set_cons_succ]
    refine stepM (i := 5) rfl (by kernel_rfl) (fun K0 hK0 => ?_)
    go_simp
    refine hK0.out _ _ (fun h => absurd rfl h) (fun _ => ?_)
    clear hK0 K0
    try simp only [Act.put, List.setIfInBounds_toArray, List.set_cons_zero, List.set_cons_succ]
    refine doneM (by kernel_rfl) ?_ _
    have hnow : ∀ g, (Value.slice A1 (k + 1) c1).ownBlock = some g → w4.heap.size ≤ g := fun g hg => by
      obtain ⟨_, _, ho, _⟩ := hO8
      exact (row_cells ho hg).choose_spec.2
    have B8 : Below w.heap.size w w8 := (hM.below.trans (hb56.mono hM.below.size)).grown hg8 (by have := hM.below.size; omega) (fun r e => by have := (hb8 r e).1; omega)
    have hz8 := hg8.size
    obtain ⟨q1, q2, q3⟩ := hKp
    refine ⟨((KeepsOthers.drew W).from _).trans ((KeepsFrom.of_grownBy (grown_of_below hb5 none) (fun j e => by cases e)).trans ((KeepsFrom.of_grownBy (grown_of_below hb6 none) (fun j e => by cases e)).trans ((hk8.from _).trans ((KeepsOthers.setCell w8 _ _).from _)))), fun hlX2 => ?_, ?_⟩
    · exact ⟨B8.setCell (p := ⟨w.heap.size, 0, none⟩) (Nat.le_refl _) _, ⟨_, by simpa using k8.put 0 (.slice A1 (k + 1) c1), hO8.put (p := ⟨w.heap.size, 0, none⟩) (fun e => by have := hnow _ e; simp only at this; omega) c8 (fun k i => by simp) _⟩, by rw [sz_setCell]; omega, hM.ord⟩
    · refine ⟨((q1.next' hb56).grown hg8 (fun e => hav6 X rfl e.symm)).far (by show X ≠ w.heap.size; omega) _, ?_, ?_⟩
      · exact (World.cell?_setCell_other w8 ⟨w.heap.size, 0, none⟩ ⟨m2, 0, none⟩ _ (fun e => by injection e with e1; omega)).trans ((grown_cell hg8 (p := ⟨m2, 0, none⟩) (by show m2 < _; omega) (fun e => by have := (hb8 _ e.symm).1; simp only at this; omega)).trans ((hb56.cell (p := ⟨m2, 0, none⟩) (by show m2 < W.heap.size; omega)).trans q2))
      · exact ((q3.below (hb56.mono (by omega))).grown hg8 (by omega) (fun r e => by have := (hb8 r e).1; omega)).put_out c8 (by simp [ints]) _
  case done =>
    rintro D X W hD hX hM hK
    have hM := hM (by omega)
    obtain ⟨v, k1, hO⟩ := hM.out
    obtain ⟨vA, vc, rfl⟩ := hO.form
    have c0 : W.cell? ⟨w.heap.size, 0, none⟩ = some (.slice vA _ vc) := k1.cell 0
    obtain ⟨o1, o2⟩ := hM.ord
    rw [ixs_len] at c0 k1 hO
    gi_wp2
    refine ⟨by simp, .inl ⟨_, _, rfl, run_takeDeferred hK, ?_⟩⟩
    have hg8 := grownBy_putObj' W D (.deferred none)
    have hr8 : ∀ r, some D = some r → ∃ o : Obj, W.heap[r]? = some o ∧ o.isCells = false := fun r e => by cases e; exact ⟨_, hK, rfl⟩
    have hO9 := hO.grown hg8 (fun r e => .inr (hr8 r e))
    have B9 := hM.below.grown hg8 hM.below.size (fun r e => by cases e; have := hM.size; omega)
    have hI9 := hO9.is
    generalize W.putObj D (.deferred none) = W9 at *
    refine ⟨.tuple #[.slice vA N vc, .int .i64 0], by simp [results, Tryd.results7, go_sem], ?_⟩
    exact ⟨B9, _, rfl, hI9⟩
end Go.Proofs.YtgnffedncjjkfaaDoor

namespace Ix

/-- The numbers stand in order, each once. -/
def Asc (l : List Nat) : Prop := l.Pairwise (· < ·)
theorem asc_ext : ∀ {l m : List Nat}, Asc l → Asc m → (∀ x, x ∈ l ↔ x ∈ m) → l = m
  | [], [], _, _, _ => rfl
  | [], b :: m, _, _, h => absurd ((h b).2 (by simp)) (by simp)
  | a :: l, [], _, _, h => absurd ((h a).1 (by simp)) (by simp)
  | a :: l, b :: m, hl, hm, h => by
    have h1 := List.pairwise_cons.1 hl
    have h2 := List.pairwise_cons.1 hm
    have e : a = b := by
      have k1 := (h a).1 (by simp)
      have k2 := (h b).2 (by simp)
      rcases List.mem_cons.1 k1 with k1 | k1
      · exact k1
      · rcases List.mem_cons.1 k2 with k2 | k2
        · exact k2.symm
        · have := h1.1 b k2; have := h2.1 a k1; omega
    subst e
    rw [asc_ext h1.2 h2.2 (fun x => ⟨fun hx => ?_, fun hx => ?_⟩)]
    · have := h1.1 x hx
      exact (List.mem_cons.1 ((h x).1 (List.mem_cons_of_mem _ hx))).resolve_left (by omega)
    · have := h2.1 x hx
      exact (List.mem_cons.1 ((h x).2 (List.mem_cons_of_mem _ hx))).resolve_left (by omega)
theorem asc_range (n : Nat) : Asc (List.range n) := List.pairwise_lt_range
theorem asc_filter {l : List Nat} {n : Nat} (h : Asc l) (hn : ∀ x ∈ l, x < n) : (List.range n).filter (fun i => l.contains i) = l :=
  asc_ext ((asc_range n).sublist List.filter_sublist) h (fun x => by
    rw [List.mem_filter, List.mem_range, List.contains_iff_mem]
    exact ⟨fun k => k.2, fun k => ⟨hn x k, k⟩⟩)
theorem range_mul {α : Type} (f : Nat → α) (m : Nat) : ∀ n, (List.range (n * m)).map f = (List.range n).flatMap fun i => (List.range m).map fun j => f (i * m + j)
  | 0 => by simp
  | n + 1 => by
    rw [Nat.add_mul, Nat.one_mul, List.range_add, List.map_append, range_mul f m n, List.range_succ, List.flatMap_append, List.map_map]
    simp [Function.comp_def]
/-- All choices of one element of each list, in order. -/
def cart : List (List Nat) → List (List Nat)
  | [] => [[]]
  | l :: L => l.flatMap fun x => (cart L).map (x :: ·)
def pickL : List (List Nat) → List Nat → List Nat
  | l :: L, i :: I => l.getD i 0 :: pickL L I
  | _, _ => []
def ins : List (List Nat) → List Nat → Bool
  | l :: L, i :: I => l.contains i && ins L I
  | [], [] => true
  | _, _ => false
theorem flat_getD {α : Type} (l : List Nat) (f : Nat → List α) : ((List.range l.length).flatMap fun i => f (l.getD i 0)) = l.flatMap f := by
  have h : (List.range l.length).map (fun i => l.getD i 0) = l := by
    apply List.ext_getElem (by simp)
    intro i h1 h2
    simp [List.getD_eq_getElem?_getD, List.getElem?_eq_getElem h2]
  have h2 : l.flatMap f = ((List.range l.length).map (fun i => l.getD i 0)).flatMap f := by rw [h]
  rw [h2, List.flatMap_map]
theorem idx_split (n : Nat) (N : List Nat) {i j : Nat} (hj : j < prod N) : idx (n :: N) (i * prod N + j) = i :: idx N j := by
  show (i * prod N + j) / prod N :: idx N ((i * prod N + j) % prod N) = _
  rw [Nat.add_comm, Nat.add_mul_div_right _ _ (by omega), Nat.div_eq_of_lt hj, Nat.add_mul_mod_self_right, Nat.mod_eq_of_lt hj, Nat.zero_add]
theorem cart_tab : ∀ L : List (List Nat), tab (L.map List.length) (pickL L) = cart L
  | [] => rfl
  | l :: L => by
    show (List.range (l.length * prod (L.map List.length))).map (fun k => pickL (l :: L) (idx (l.length :: L.map List.length) k)) = l.flatMap fun x => (cart L).map (x :: ·)
    rw [range_mul, ← flat_getD l, ← cart_tab L]
    refine congrArg (fun g => (List.range l.length).flatMap g) (funext fun i => ?_)
    unfold tab
    rw [List.map_map]
    refine List.map_congr_left fun j hj => ?_
    rw [idx_split _ _ (List.mem_range.1 hj)]
    rfl
theorem flat_filter {α : Type} (l : List Nat) (p : Nat → Bool) (f : Nat → List α) : (l.flatMap fun i => if p i then f i else []) = (l.filter p).flatMap f := by
  induction l with
  | nil => rfl
  | cons a l ih =>
    rw [List.flatMap_cons, ih, List.filter_cons]
    cases p a
    · simp
    · simp
theorem filter_flat {α : Type} (l : List Nat) (p : α → Bool) (f : Nat → List α) : (l.flatMap f).filter p = l.flatMap fun i => (f i).filter p := by
  induction l with
  | nil => rfl
  | cons a l ih => rw [List.flatMap_cons, List.filter_append, ih, List.flatMap_cons]
/-- Of all indexes those whose elements lie in the lists. -/
theorem cart_filter : ∀ {L : List (List Nat)} {N : List Nat}, L.length = N.length → (∀ l ∈ L, Asc l) → (∀ I, ins L I = true → Inside N I) → (∀ k, k < L.length → ∀ x ∈ L.getD k [], x < N.getD k 0) →
    ((List.range (prod N)).map (idx N)).filter (ins L) = cart L
  | [], [], _, _, _, _ => rfl
  | [], _ :: _, h, _, _, _ => by simp at h
  | _ :: _, [], h, _, _, _ => by simp at h
  | l :: L, n :: N, hl, hA, _, hb => by
    have hl' : L.length = N.length := by simpa using hl
    have hb' : ∀ k, k < L.length → ∀ x ∈ L.getD k [], x < N.getD k 0 := fun k hk x hx => by simpa using hb (k + 1) (by simpa using hk) x (by simpa using hx)
    have hin : ∀ {L : List (List Nat)} {N : List Nat}, L.length = N.length → (∀ k, k < L.length → ∀ x ∈ L.getD k [], x < N.getD k 0) → ∀ I, ins L I = true → Inside N I := by
      intro L
      induction L with
      | nil => intro N h1 _ I hI; cases N with
        | nil => cases I with
          | nil => trivial
          | cons => simp [ins] at hI
        | cons => simp at h1
      | cons l L ih => intro N h1 h2 I hI; cases N with
        | nil => simp at h1
        | cons n N => cases I with
          | nil => simp [ins] at hI
          | cons i I =>
            simp only [ins, Bool.and_eq_true, List.contains_iff_mem] at hI
            exact ⟨by simpa using h2 0 (by simp) i (by simpa using hI.1), ih (by simpa using h1) (fun k hk x hx => by simpa using h2 (k + 1) (by simpa using hk) x (by simpa using hx)) I hI.2⟩
    have ih := cart_filter hl' (fun l' h => hA l' (by simp [h])) (hin hl' hb') hb'
    show ((List.range (n * prod N)).map (idx (n :: N))).filter (ins (l :: L)) = l.flatMap fun x => (cart L).map (x :: ·)
    rw [range_mul, filter_flat]
    have e : (fun i => ((List.range (prod N)).map fun j => idx (n :: N) (i * prod N + j)).filter (ins (l :: L))) = fun i => if l.contains i then (cart L).map (i :: ·) else [] := by
      funext i
      have e1 : ((List.range (prod N)).map fun j => idx (n :: N) (i * prod N + j)) = ((List.range (prod N)).map (idx N)).map (i :: ·) := by
        rw [List.map_map]
        exact List.map_congr_left fun j hj => idx_split _ _ (List.mem_range.1 hj)
      rw [e1, List.filter_map, ← ih]
      cases hc : l.contains i
      · have : (ins (l :: L) ∘ fun x => i :: x) = fun _ => false := by
          funext I
          show (l.contains i && ins L I) = false
          rw [hc, Bool.false_and]
        rw [this]; simp
      · have : (ins (l :: L) ∘ fun x => i :: x) = ins L := by
          funext I
          show (l.contains i && ins L I) = ins L I
          rw [hc, Bool.true_and]
        rw [this]; simp
    rw [e, flat_filter, asc_filter (hA l (by simp)) (fun x hx => by simpa using hb 0 (by simp) x (by simpa using hx))]
/-- The chunks of a cut's elements, one for each element. -/
def tline (c : Cut) (z : Nat) : List Nat := (List.range c.2.1.toNat).map fun (i : Nat) => (c.1 + (i : Int) * c.2.2).toNat / z
/-- Lists in place of the lines: the same elements, in order, each once. -/
def Lines : List Cut → List Nat → List (List Nat) → Prop
  | c :: C, z :: Z, l :: L => Asc l ∧ (∀ x, x ∈ l ↔ x ∈ tline c z) ∧ Lines C Z L
  | [], [], [] => True
  | _, _, _ => False
theorem mem_tline {c : Cut} {z x : Nat} : x ∈ tline c z ↔ ∃ i : Nat, i < c.2.1.toNat ∧ (c.1 + (i : Int) * c.2.2).toNat / z = x := by
  unfold tline
  rw [List.mem_map]
  exact ⟨fun ⟨i, h1, h2⟩ => ⟨i, List.mem_range.1 h1, h2⟩, fun ⟨i, h1, h2⟩ => ⟨i, List.mem_range.2 h1, h2⟩⟩
theorem ins_iff : ∀ {C : List Cut} {Z : List Nat} {L : List (List Nat)} {I : List Nat}, Lines C Z L → (ins L I = true ↔ ∃ J, Inside (cnt C) J ∧ chk Z (thr C J) = I ∧ I.length = C.length)
  | [], [], [], [], _ => ⟨fun _ => ⟨[], trivial, rfl, rfl⟩, fun _ => rfl⟩
  | [], [], [], i :: I, _ => ⟨fun h => by simp [ins] at h, fun ⟨_, _, _, h⟩ => by simp at h⟩
  | [], [], _ :: _, _, h => h.elim
  | [], _ :: _, _, _, h => h.elim
  | _ :: _, [], _, _, h => h.elim
  | _ :: _, _ :: _, [], _, h => h.elim
  | c :: C, z :: Z, l :: L, [], _ => ⟨fun h => by simp [ins] at h, fun ⟨_, _, _, h⟩ => by simp at h⟩
  | c :: C, z :: Z, l :: L, i :: I, h => by
    have ih := ins_iff (I := I) h.2.2
    simp only [ins, Bool.and_eq_true, List.contains_iff_mem]
    rw [h.2.1, mem_tline, ih]
    constructor
    · rintro ⟨⟨k, k1, k2⟩, J, j1, j2, j3⟩
      refine ⟨k :: J, ⟨k1, j1⟩, ?_, by simpa using j3⟩
      show (c.1 + (k : Nat) * c.2.2).toNat / z :: chk Z (thr C J) = i :: I
      rw [k2, j2]
    · rintro ⟨J, j1, j2, j3⟩
      cases J with
      | nil => exact j1.elim
      | cons k J =>
        have e1 : (c.1 + (k : Nat) * c.2.2).toNat / z = i := by injection j2
        have e2 : chk Z (thr C J) = I := by injection j2
        exact ⟨⟨k, j1.1, e1⟩, J, j1.2, e2, by simpa using j3⟩
theorem lines_len : ∀ {C : List Cut} {Z : List Nat} {L : List (List Nat)}, Lines C Z L → L.length = C.length ∧ (∀ l ∈ L, Asc l)
  | [], [], [], _ => ⟨rfl, fun l h => by simp at h⟩
  | [], [], _ :: _, h => h.elim
  | [], _ :: _, _, h => h.elim
  | _ :: _, [], _, h => h.elim
  | _ :: _, _ :: _, [], h => h.elim
  | c :: C, z :: Z, l :: L, h => by
    have ih := lines_len h.2.2
    refine ⟨by simp [ih.1], fun x hx => ?_⟩
    rcases List.mem_cons.1 hx with rfl | hx
    · exact h.1
    · exact ih.2 x hx
theorem lines_lt : ∀ {S Z : List Nat} {C : List Cut} {L : List (List Nat)}, (∀ z ∈ Z, 1 ≤ z) → Fit (S.map Int.ofNat) C → Lines C Z L → ∀ k, k < L.length → ∀ x ∈ L.getD k [], x < (nums S Z).getD k 0
  | [], [], [], [], _, _, _, k, hk, _, _ => by simp at hk
  | [], _, _ :: _, _, _, h, _, _, _, _, _ => h.elim
  | _ :: _, _, [], _, _, h, _, _, _, _, _ => h.elim
  | _, _, [], _ :: _, _, _, h, _, _, _, _ => by simp [Lines] at h
  | _, _ :: _, [], [], _, _, h, _, _, _, _ => h.elim
  | _, [], _ :: _, _, _, _, h, _, _, _, _ => h.elim
  | _, _ :: _, _ :: _, [], _, _, h, _, _, _, _ => h.elim
  | s :: S, z :: Z, c :: C, l :: L, hz, hF, h, 0, _, x, hx => by
    have h0 := hz z (by simp)
    obtain ⟨i, hi, rfl⟩ := mem_tline.1 ((h.2.1 x).1 hx)
    have h1 := fitC_at hF.1 (i := i) (by omega) (by omega)
    have h2 : c.1 + (i : Nat) * c.2.2 < (s : Int) := h1.2
    have h3 : 0 ≤ c.1 := hF.1.1
    show _ < (s + z - 1) / z
    have e := Nat.div_add_mod (c.1 + (i : Nat) * c.2.2).toNat z
    rw [Nat.mul_comm] at e
    refine (Nat.le_div_iff_mul_le h0).2 ?_
    show ((c.1 + (i : Nat) * c.2.2).toNat / z + 1) * z ≤ _
    rw [Nat.add_mul]; omega
  | s :: S, z :: Z, c :: C, l :: L, hz, hF, h, k + 1, hk, x, hx => lines_lt (fun x hx => hz x (by simp [hx])) hF.2 h.2.2 k (by simpa using hk) x (by simpa using hx)
end Ix

namespace Ix
open Go

theorem comp_inv {d : Array Int} (h : ∀ j, j + 1 < d.size → d[j]! ≤ d[j + 1]!) : ∀ m, m ≤ d.size →
    (Lib.compactUpTo d m).Pairwise (· < ·) ∧ (∀ x, x ∈ Lib.compactUpTo d m ↔ ∃ j, j < m ∧ d[j]! = x) ∧ (∀ x ∈ Lib.compactUpTo d m, x ≤ d[m - 1]!)
  | 0, _ => by simp [Lib.compactUpTo]
  | m + 1, hm => by
    obtain ⟨h1, h2, h3⟩ := comp_inv h m (by omega)
    rw [Lib.compactUpTo_succ]
    rcases Nat.eq_zero_or_pos m with rfl | hm0
    · have e : Lib.compactUpTo d 0 = [] := by simp [Lib.compactUpTo]
      rw [e, Lib.keeps_lt_one d 0 (by omega)]
      refine ⟨by simp, fun x => ?_, fun x hx => ?_⟩
      · rw [if_pos rfl, List.nil_append, List.mem_singleton]
        exact ⟨fun e => ⟨0, by omega, e.symm⟩, fun ⟨j, hj, e⟩ => by obtain rfl : j = 0 := by omega
                                                                    exact e.symm⟩
      · rw [if_pos rfl, List.nil_append, List.mem_singleton] at hx
        rw [hx]; exact Int.le_refl _
    · have hle : d[m - 1]! ≤ d[m]! := by
        have := h (m - 1) (by omega)
        rwa [Nat.sub_add_cancel hm0] at this
      rw [Nat.add_sub_cancel]
      by_cases e : d[m]! = d[m - 1]!
      · rw [Lib.keeps_neg hm0 e, if_neg (by decide), List.append_nil]
        refine ⟨h1, fun x => ?_, fun x hx => Int.le_trans (h3 x hx) hle⟩
        rw [h2]
        constructor
        · rintro ⟨j, hj, ej⟩; exact ⟨j, by omega, ej⟩
        · rintro ⟨j, hj, ej⟩
          rcases Nat.lt_or_ge j m with h4 | h4
          · exact ⟨j, h4, ej⟩
          · obtain rfl : j = m := by omega
            exact ⟨j - 1, by omega, by rw [← e]; exact ej⟩
      · rw [Lib.keeps_pos e, if_pos rfl]
        refine ⟨List.pairwise_append.2 ⟨h1, List.pairwise_singleton _ _, fun x hx y hy => ?_⟩, fun x => ?_, fun x hx => ?_⟩
        · rw [List.mem_singleton] at hy
          have := h3 x hx
          rw [hy]; omega
        · rw [List.mem_append, h2, List.mem_singleton]
          constructor
          · rintro (⟨j, hj, ej⟩ | ej)
            · exact ⟨j, by omega, ej⟩
            · exact ⟨m, by omega, ej.symm⟩
          · rintro ⟨j, hj, ej⟩
            rcases Nat.lt_or_ge j m with h4 | h4
            · exact .inl ⟨j, h4, ej⟩
            · obtain rfl : j = m := by omega
              exact .inr ej.symm
        · rcases List.mem_append.1 hx with hx | hx
          · exact Int.le_trans (h3 x hx) hle
          · rw [List.mem_singleton] at hx; rw [hx]; exact Int.le_refl _
/-- The line of a cut, each chunk once. -/
def tl (c : Cut) (z : Nat) : List Nat := (Lib.compact ((tline c z).map Int.ofNat)).map Int.toNat
theorem tline_len (c : Cut) (z : Nat) : (tline c z).length = c.2.1.toNat := by simp [tline]
theorem tline_up {c : Cut} {s : Int} (hF : FitC c s) (z : Nat) : ∀ j, j + 1 < ((tline c z).map Int.ofNat).toArray.size → ((tline c z).map Int.ofNat).toArray[j]! ≤ ((tline c z).map Int.ofNat).toArray[j + 1]! := by
  intro j hj
  have hj' : j + 1 < c.2.1.toNat := by simpa [tline] using hj
  have e : ∀ i, i < c.2.1.toNat → ((tline c z).map Int.ofNat).toArray[i]! = (((c.1 + (i : Int) * c.2.2).toNat / z : Nat) : Int) := fun i hi => by
    rw [getElem!_pos _ i (by simpa [tline] using hi)]
    simp [tline]
  rw [e j (by omega), e (j + 1) hj']
  have h1 : (c.1 + (j : Int) * c.2.2).toNat ≤ (c.1 + ((j + 1 : Nat) : Int) * c.2.2).toNat := by
    have h2 := hF.2.2.1
    have h3 : ((j + 1 : Nat) : Int) * c.2.2 = (j : Int) * c.2.2 + c.2.2 := by rw [Int.natCast_add, Int.add_mul]; simp
    omega
  have := Nat.div_le_div_right (c := z) h1
  omega
theorem tl_int {c : Cut} {s : Int} (hF : FitC c s) (z : Nat) : (tl c z).map Int.ofNat = Lib.compact ((tline c z).map Int.ofNat) := by
  unfold tl
  rw [List.map_map]
  refine (List.map_congr_left fun x hx => ?_).trans (List.map_id _)
  obtain ⟨j, _, e⟩ := ((comp_inv (tline_up hF z) _ (by simp)).2.1 x).1 hx
  have : 0 ≤ x := by
    rw [← e]
    rcases Nat.lt_or_ge j ((tline c z).map Int.ofNat).toArray.size with h | h
    · rw [getElem!_pos _ j h]; simp
    · rw [getElem!_neg _ j (by omega)]; exact Int.le_refl _
  show ((x.toNat : Nat) : Int) = x
  omega
theorem tl_line {c : Cut} {s : Int} (hF : FitC c s) (z : Nat) : Asc (tl c z) ∧ ∀ x, x ∈ tl c z ↔ x ∈ tline c z := by
  have e := tl_int hF z
  obtain ⟨h1, h2, _⟩ := comp_inv (tline_up hF z) ((tline c z).map Int.ofNat).length (by simp)
  have e' : Lib.compact ((tline c z).map Int.ofNat) = Lib.compactUpTo ((tline c z).map Int.ofNat).toArray ((tline c z).map Int.ofNat).length := rfl
  rw [← e', ← e] at h1 h2
  refine ⟨(List.pairwise_map.1 h1).imp fun {a b} hab => by have : (a : Int) < b := hab; omega, fun x => ?_⟩
  have h3 := h2 (x : Int)
  have h4 : ((x : Int) ∈ (tl c z).map Int.ofNat) ↔ x ∈ tl c z := by
    rw [List.mem_map]
    exact ⟨fun ⟨y, hy, ey⟩ => by obtain rfl : y = x := by injection ey
                                 exact hy, fun h => ⟨x, h, rfl⟩⟩
  rw [← h4, h3]
  constructor
  · rintro ⟨j, hj, ej⟩
    rw [getElem!_pos _ j (by simpa using hj)] at ej
    have hj' : j < (tline c z).length := by simpa using hj
    have : (tline c z)[j] = x := by have : (((tline c z)[j] : Nat) : Int) = x := by simpa using ej
                                    omega
    rw [← this]; exact List.getElem_mem _
  · intro hx
    obtain ⟨j, hj, ej⟩ := List.getElem_of_mem hx
    refine ⟨j, by simpa using hj, ?_⟩
    rw [getElem!_pos _ j (by simpa using hj)]
    simp [ej]
def tls : List Cut → List Nat → List (List Nat)
  | c :: C, z :: Z => tl c z :: tls C Z
  | _, _ => []
theorem tls_lines : ∀ {S : List Int} {C : List Cut} {Z : List Nat}, Fit S C → Z.length = S.length → Lines C Z (tls C Z)
  | [], [], [], _, _ => trivial
  | [], [], _ :: _, _, h => by simp at h
  | [], _ :: _, _, h, _ => h.elim
  | _ :: _, [], _, h, _ => h.elim
  | _ :: _, _ :: _, [], _, h => by simp at h
  | s :: S, c :: C, z :: Z, h, k => ⟨(tl_line h.1 z).1, (tl_line h.1 z).2, tls_lines h.2 (by simpa using k)⟩
end Ix

namespace Go.Proofs.YtgnffedncjjkfaaDoor
open Go.RowKit Ix Ar

theorem compact_len (zs : List Int) : (Lib.compact zs).length ≤ zs.length := by
  unfold Lib.compact Lib.compactUpTo
  rw [List.length_map]
  have := List.length_filter_le (Lib.keeps zs.toArray) (List.range zs.length)
  simpa using this
theorem Rd.front {w : World} {B : Nat} {A : Option Addr} {xs ys : List Value} (h : Rd w B A (xs ++ ys)) : Rd w B A xs := fun hn => by
  obtain ⟨ad, e, hb, hc⟩ := h (fun e => hn (List.append_eq_nil_iff.1 e).1)
  exact ⟨ad, e, hb, fun j u hu => hc j u (by rw [List.getElem?_append_left (List.getElem?_eq_some_iff.1 hu).1]; exact hu)⟩
theorem compact_any {w : World} {base : Nat} {v : Value} {n : Nat} {zs : List Int} (hown : w.ownsRow base 3 1 v n (zints zs)) :
    Calls Tryd.prog 16 #[v] w fun e w' => w.grownBy w' v.ownBlock ∧ w.heap.size ≤ w'.heap.size ∧ ∃ v', e = .returned v' ∧ IsI w' w'.heap.size v' (Lib.compact zs) ∧ ∀ ad m c, v' = .slice (some ad) m c → v.ownBlock = some ad.block := by
  have hl : zs.length = n := by have := hown.1; rwa [zints_len, Nat.mul_one] at this
  rcases hown.2 with ⟨rfl, rfl⟩ | ⟨g, cap, cur, rfl, hbg, hb, hnc, hcm, hcs, htake⟩
  · obtain rfl : zs = [] := List.eq_nil_of_length_eq_zero hl
    refine (Tryd.slices_Compact_int_empty none 0 w).mono ?_
    rintro e w' ⟨rfl, rfl⟩
    exact ⟨World.grownBy.refl _ _, Nat.le_refl _, _, rfl, IsI.nil _ _, fun ad m c e => by cases e⟩
  · rcases Nat.eq_zero_or_pos n with h0 | h0
    · subst h0
      obtain rfl : zs = [] := List.eq_nil_of_length_eq_zero hl
      refine (Tryd.slices_Compact_int_empty (some ⟨g, 0, none⟩) cap w).mono ?_
      rintro e w' ⟨rfl, rfl⟩
      exact ⟨World.grownBy.refl _ _, Nat.le_refl _, _, rfl, ⟨_, cap, rfl, Nat.zero_le _, fun h => absurd rfl h⟩, fun ad m c e => by cases e; rfl⟩
    · subst hl
      have hH := holds_of_blockI (ss := zs) hb (by rw [Nat.mul_one] at htake; exact htake)
      have hcl := compact_len zs
      refine (Tryd.slices_Compact_int g 0 cap zs w hH (by unfold maxLen at hcm; omega) hnc).mono ?_
      rintro e w' ⟨rfl, q, rfl⟩
      have hg := grownBy_sortedI (w := w) (g := g) (n := q) (os := #[]) (Lib.compact zs ++ List.replicate (zs.length - (Lib.compact zs).length) 0).toArray
      have ho := ownsRow_sortedI (base := base) (cap := cap) (n := q) (os := #[]) (ss := zs) (ts := Lib.compact zs ++ List.replicate (zs.length - (Lib.compact zs).length) 0) (by rw [List.length_append, List.length_replicate]; omega) hbg hb hnc hcm hcs
      have e0 : ∀ W : World, Sort.grow W #[] = W := fun W => by simp [Sort.grow]
      rw [e0] at hg ho
      refine ⟨by simpa [Value.ownBlock] using hg, hg.size, _, rfl, ⟨some ⟨g, 0, none⟩, cap, rfl, by omega, ?_⟩, fun ad m c e => by cases e; rfl⟩
      have hr := Rd.of_own ho
      rw [List.map_append] at hr
      exact hr.front
theorem IsI.grown {w w' : World} {B : Nat} {v : Value} {l : List Int} (h : IsI w B v l) {row : Option Nat} (hg : w.grownBy w' row) (hB : B ≤ w.heap.size) (hr : ∀ r, row = some r → B ≤ r) : IsI w' B v l := by
  obtain ⟨A, c, e, h1, h3⟩ := h
  exact ⟨A, c, e, h1, h3.grown hg hB hr⟩
theorem IsI.put_out {w : World} {B : Nat} {v : Value} {l : List Int} (h : IsI w B v l) {p : Addr} {old : Value} (hc : w.cell? p = some old) (hn : noInt old) (u : Value) : IsI (w.setCell p u) B v l := h.kept (ints_setCell hc hn u)
theorem IsI.grown_off {w w' : World} {B : Nat} {v : Value} {l : List Int} (h : IsI w B v l) {X : Nat} (ho : l ≠ [] → offX v X) (hB : B ≤ w.heap.size) (hg : w.grownBy w' (some X)) : IsI w' B v l := by
  obtain ⟨A, c, e, h1, h3⟩ := h
  refine ⟨A, c, e, h1, fun hn => ?_⟩
  obtain ⟨ad, e2, hb, hc⟩ := h3 hn
  refine ⟨ad, e2, hb, fun j u hu => ?_⟩
  rw [grown_cell hg (by rw [addr_block]; omega) (by rw [addr_block]; intro e3; injection e3 with e3; exact ho (fun e5 => hn (by rw [e5]; rfl)) ad _ _ (by rw [e, e2]) e3)]
  exact hc j u hu
/-- Lists that are done: their values, and what they hold; none lies in the block av. -/
def Done (av : Option Nat) (w : World) (B : Nat) (Vs : List Value) (D : List (List Int)) : Prop := Vs.length = D.length ∧ ∀ (i : Nat) (x : List Int), D[i]? = some x → ∃ v, Vs[i]? = some v ∧ IsI w B v x ∧ ∀ X, av = some X → x ≠ [] → offX v X
section
variable {av : Option Nat} {w w' : World} {B B' : Nat} {Vs : List Value} {D : List (List Int)}
theorem Done.nil (av : Option Nat) (w : World) (B : Nat) : Done av w B [] [] := ⟨rfl, fun i x h => by simp at h⟩
theorem Done.map (h : Done av w B Vs D) (f : ∀ v l, IsI w B v l → (∀ X, av = some X → l ≠ [] → offX v X) → IsI w' B' v l) : Done av w' B' Vs D := ⟨h.1, fun i x hx => by obtain ⟨v, h1, h2, h3⟩ := h.2 i x hx; exact ⟨v, h1, f _ _ h2 h3, h3⟩⟩
theorem Done.more (h : Done av w B Vs D) (hB : B ≤ B') : Done av w B' Vs D := h.map fun _ _ k _ => k.more hB
theorem Done.below (h : Done av w B Vs D) (hb : Below B w w') : Done av w' B Vs D := h.map fun _ _ k _ => k.below hb
theorem Done.grown (h : Done av w B Vs D) {row : Option Nat} (hg : w.grownBy w' row) (hB : B ≤ w.heap.size) (hr : ∀ r, row = some r → B ≤ r) : Done av w' B Vs D := h.map fun _ _ k _ => k.grown hg hB hr
theorem Done.put_out (h : Done av w B Vs D) {p : Addr} {old : Value} (hc : w.cell? p = some old) (hn : noInt old) (u : Value) : Done av (w.setCell p u) B Vs D := h.map fun _ _ k _ => k.put_out hc hn u
theorem Done.app (h : Done av w B Vs D) (hB : B ≤ w.heap.size) (hg : w.grownBy w' av) {av' : Option Nat} (ha : av' = av ∨ av' = some w.heap.size) : Done av' w' B Vs D := by
  refine ⟨h.1, fun i x hx => ?_⟩
  obtain ⟨v, h1, h2, h3⟩ := h.2 i x hx
  refine ⟨v, h1, ?_, fun X hX hne => ?_⟩
  · cases av with
    | none => exact h2.grown hg hB (fun r e => by cases e)
    | some X => exact h2.grown_off (h3 X rfl) hB hg
  · rcases ha with e | e
    · exact h3 X (by rw [← e]; exact hX) hne
    · rw [e] at hX
      injection hX with hX
      intro ad n c e2
      subst hX
      obtain ⟨A, c2, e3, h4, h5⟩ := h2
      rw [e2] at e3
      injection e3 with e3 e4 _
      intro e5
      obtain ⟨ad', e6, hb, _⟩ := h5 (fun e7 => hne (by cases x with
        | nil => rfl
        | cons => cases e7))
      rw [← e3] at e6
      injection e6 with e6
      subst e6
      omega
theorem Done.add (h : Done av w B Vs D) {v : Value} {x : List Int} (hv : IsI w B v x) (ho : ∀ X, av = some X → x ≠ [] → offX v X) : Done av w B (Vs ++ [v]) (D ++ [x]) := by
  refine ⟨by rw [List.length_append, List.length_append, h.1]; rfl, fun i y hy => ?_⟩
  rcases Nat.lt_or_ge i D.length with hi | hi
  · rw [List.getElem?_append_left hi] at hy
    obtain ⟨u, h1, h2⟩ := h.2 i y hy
    exact ⟨u, by rw [List.getElem?_append_left (by rw [h.1]; exact hi)]; exact h1, h2⟩
  · rw [List.getElem?_append_right hi] at hy
    have hi0 : i - D.length = 0 := by
      rcases Nat.eq_zero_or_pos (i - D.length) with h0 | h0
      · exact h0
      · rw [List.getElem?_eq_none (by simp; omega)] at hy; cases hy
    rw [hi0] at hy
    simp at hy
    subst hy
    exact ⟨v, by rw [List.getElem?_append_right (by rw [h.1]; exact hi), h.1, hi0]; rfl, hv, ho⟩
end
/-- The cells of the lists: those done, the one under way, and those to come. -/
def lsc (n : Nat) (Vs : List Value) (v : Value) : List Value := Vs ++ v :: List.replicate (n - (Vs.length + 1)) (.slice none 0 0)
theorem lsc_set {n : Nat} {Vs : List Value} {v u : Value} : (lsc n Vs v).toArray.setIfInBounds Vs.length u = (lsc n Vs u).toArray := by
  unfold lsc
  simp [List.set_append_right]
theorem lsc_at {n : Nat} {Vs : List Value} {v : Value} : (lsc n Vs v).toArray[Vs.length]? = some v := by simp [lsc]
/-- The cells with those done alone. -/
def lsf (n : Nat) (Vs : List Value) : List Value := Vs ++ List.replicate (n - Vs.length) (.slice none 0 0)
theorem lsf_zero (n : Nat) : List.replicate n (Value.slice none 0 0) = lsf n [] := by simp [lsf]
theorem lsf_open {n : Nat} {Vs : List Value} (h : Vs.length < n) : lsf n Vs = lsc n Vs (.slice none 0 0) := by
  unfold lsf lsc
  obtain ⟨m, hm⟩ : ∃ m, n - Vs.length = m + 1 := ⟨n - Vs.length - 1, by omega⟩
  rw [hm, List.replicate_succ, show n - (Vs.length + 1) = m by omega]
theorem lsf_close {n : Nat} {Vs : List Value} {v : Value} : lsc n Vs v = lsf n (Vs ++ [v]) := by
  unfold lsf lsc
  rw [List.append_assoc, List.length_append, List.length_singleton]; rfl
theorem make_lists (n : Nat) (hn : n ≤ 4000000) (w : World) :
    (Instr.makeSlice 28 (.int .i64 (n : Int)) (.int .i64 (n : Int))).run Tryd.prog w = .ok (.slice (some ⟨w.heap.size, 0, none⟩) n n) (w.alloc (.cells (lsf n []).toArray 22)) := by
  rw [← lsf_zero]
  obtain ⟨i0, hi0, hz0, hz1, hz2⟩ := info_parts Tryd.ints_info
  have hr := run_make (P := Tryd.prog) w 28 22 i0 (.slice none 0 0) Tryd.underlying28 hi0 hz0 .i64 .i64 n n (by omega) (by omega) (by rw [hz2]; omega) (by omega)
  rw [hr, hz1]
  have e1 : madeCells (Value.cells (.slice none 0 0)) ((n : Int).toNat * 1) = (List.replicate n (Value.slice none 0 0)).toArray := by
    apply Array.ext'
    have : Value.cells (.slice none 0 0) = #[.slice none 0 0] := rfl
    rw [this, toList_madeCells_one]
    simp
  rw [e1]
  simp
/-- What is said of the chunks that a slab touches. -/
noncomputable def touchedR (S Z : List Int) (C : List Cut) : List (List Int) × Int :=
  open Classical in if sizedR S Z = 0 then (if Fit S C then ((cart (tls C (Z.map Int.toNat))).map (List.map Int.ofNat), 0) else ([], 61)) else ([], sizedR S Z)
theorem touchedR_no {S Z : List Int} (C : List Cut) (h : sizedR S Z ≠ 0) : touchedR S Z C = ([], sizedR S Z) := by unfold touchedR; rw [if_neg h]
theorem touchedR_slab {S Z : List Int} {C : List Cut} (h : sizedR S Z = 0) (k : ¬ Fit S C) : touchedR S Z C = ([], 61) := by unfold touchedR; rw [if_pos h, if_neg k]
theorem touchedR_ok {S Z : List Int} {C : List Cut} (h : sizedR S Z = 0) (k : Fit S C) : touchedR S Z C = ((cart (tls C (Z.map Int.toNat))).map (List.map Int.ofNat), 0) := by unfold touchedR; rw [if_pos h, if_pos k]
end Go.Proofs.YtgnffedncjjkfaaDoor

namespace Go.Proofs.YtgnffedncjjkfaaDoor
open Go.RowKit Ix Ar
attribute [local go_sem] Oper.semAt_some

def tlI (C : List Cut) (Zn : List Nat) : List (List Int) := (tls C Zn).map (List.map Int.ofNat)
def tlenI (C : List Cut) (Zn : List Nat) : List Int := (tlI C Zn).map fun l => (l.length : Int)
theorem tls_at : ∀ {C : List Cut} {Z : List Nat} {k : Nat} (h : k < C.length), k < Z.length → (tls C Z)[k]? = some (tl C[k] (Z.getD k 0))
  | [], _, _, h, _ => by simp at h
  | _ :: _, [], _, _, h => by simp at h
  | c :: C, z :: Z, 0, _, _ => rfl
  | c :: C, z :: Z, k + 1, h1, h2 => by simpa [tls] using tls_at (C := C) (Z := Z) (k := k) (by simpa using h1) (by simpa using h2)
theorem tls_len : ∀ {C : List Cut} {Z : List Nat}, Z.length = C.length → (tls C Z).length = C.length
  | [], [], _ => rfl
  | [], _ :: _, h => by simp at h
  | _ :: _, [], h => by simp at h
  | c :: C, z :: Z, h => by show (tls C Z).length + 1 = C.length + 1; rw [tls_len (by simpa using h)]
theorem tlI_take {C : List Cut} {Zn : List Nat} {k : Nat} (h : k < C.length) (h2 : k < Zn.length) : (tlI C Zn).take (k + 1) = (tlI C Zn).take k ++ [(tl C[k] (Zn.getD k 0)).map Int.ofNat] := by
  unfold tlI
  rw [List.take_add_one, List.getElem?_map, tls_at h h2]; rfl
theorem tlenI_take {C : List Cut} {Zn : List Nat} {k : Nat} (h : k < C.length) (h2 : k < Zn.length) : (tlenI C Zn).take (k + 1) = (tlenI C Zn).take k ++ [(((tl C[k] (Zn.getD k 0)).map Int.ofNat).length : Int)] := by
  unfold tlenI
  rw [← List.map_take, tlI_take h h2, List.map_append, ← List.map_take]; rfl
theorem tline_take {c : Cut} {z j : Nat} (h : j < c.2.1.toNat) : ((tline c z).map Int.ofNat).take (j + 1) = ((tline c z).map Int.ofNat).take j ++ [(((c.1 + (j : Int) * c.2.2).toNat / z : Nat) : Int)] := by
  unfold tline
  rw [List.take_add_one, List.getElem?_map, List.getElem?_map, List.getElem?_range h]; rfl
/-- The lengths of the lists. -/
def lns (C : List Cut) (Zn : List Nat) : List Nat := (tls C Zn).map List.length
theorem lns_int (C : List Cut) (Zn : List Nat) : zints (tlenI C Zn) = ints .i64 (lns C Zn) := by
  unfold tlenI tlI lns zints ints
  simp [List.map_map, Function.comp_def]
theorem lns_len {C : List Cut} {Zn : List Nat} (h : Zn.length = C.length) : (lns C Zn).length = C.length := by unfold lns; rw [List.length_map, tls_len h]
theorem tl_le {c : Cut} {s : Int} (h : FitC c s) (z : Nat) : (tl c z).length ≤ c.2.1.toNat := by
  have h1 := congrArg List.length (tl_int h z)
  rw [List.length_map] at h1
  rw [h1]
  have h2 := compact_len ((tline c z).map Int.ofNat)
  rwa [List.length_map, tline_len] at h2
theorem lns_at {S : List Int} {C : List Cut} {Zn : List Nat} (hF : Fit S C) (h : Zn.length = C.length) (j : Nat) : (lns C Zn).getD j 0 ≤ (cnt C).getD j 0 := by
  rcases Nat.lt_or_ge j C.length with hj | hj
  · have h1 := ((fit_iff _ _).1 hF).2 j (by rw [← fit_len hF]; exact hj)
    rw [List.getD_eq_getElem?_getD, List.getElem?_eq_getElem hj] at h1
    have e1 : (lns C Zn).getD j 0 = (tl C[j] (Zn.getD j 0)).length := by
      unfold lns
      rw [List.getD_eq_getElem?_getD, List.getElem?_map, tls_at hj (by omega)]; rfl
    have e2 : (cnt C).getD j 0 = C[j].2.1.toNat := by
      rw [cnt_at hj, List.getD_eq_getElem?_getD, List.getElem?_eq_getElem hj]; rfl
    rw [e1, e2]
    exact tl_le h1 _
  · rw [List.getD_eq_getElem?_getD, List.getElem?_eq_none (by rw [lns_len h]; exact hj)]
    exact Nat.zero_le _
theorem lns_sz {S : List Int} {C : List Cut} {Zn : List Nat} (hV : VS S) (hF : Fit S C) (h : Zn.length = C.length) : Sz4 (lns C Zn) ∧ Ix.prod (lns C Zn) ≤ 4096 := by
  have hcV := fit_VS hV hF
  have hl := lns_len h
  refine ⟨⟨by rw [hl, fit_len hF]; exact hV.1, fun s hs => ?_⟩, ?_⟩
  · obtain ⟨j, hj, rfl⟩ := List.getElem_of_mem hs
    have h1 := lns_at hF h j
    rw [List.getD_eq_getElem?_getD, List.getElem?_eq_getElem hj] at h1
    have hj2 : j < (cntI C).length := by rw [cntI_len, ← hl]; exact hj
    have h2 := hcV.2.1 _ (List.getElem_mem hj2)
    have h3 : (cnt C).getD j 0 = (cntI C)[j].toNat := by rw [← cntI_nat, getD_map, ← getD_zint hj2]
    simp only [Option.getD_some] at h1
    omega
  · have h1 := hcV.2.2
    rw [cntI_nat] at h1
    exact Nat.le_trans (prod_mono _ _ (by rw [hl]; unfold cnt; rw [List.length_map]) (lns_at hF h)) h1
/-- The first k choices. -/
def pks (L : List (List Nat)) (k : Nat) : List (List Int) := (List.range k).map fun j => (pickL L (idx (L.map List.length) j)).map Int.ofNat
theorem pks_next (L : List (List Nat)) (k : Nat) : pks L (k + 1) = pks L k ++ [(pickL L (idx (L.map List.length) k)).map Int.ofNat] := by unfold pks; rw [List.range_succ, List.map_append]; rfl
theorem pks_len (L : List (List Nat)) (k : Nat) : (pks L k).length = k := by simp [pks]
theorem pks_all (L : List (List Nat)) : pks L (Ix.prod (L.map List.length)) = (cart L).map (List.map Int.ofNat) := by
  rw [← cart_tab]
  unfold tab pks
  rw [List.map_map]; rfl
theorem pickL_len : ∀ {L : List (List Nat)} {I : List Nat}, I.length = L.length → (pickL L I).length = L.length
  | [], [], _ => rfl
  | [], _ :: _, h => by simp at h
  | _ :: _, [], h => by simp at h
  | l :: L, i :: I, h => by show (pickL L I).length + 1 = L.length + 1; rw [pickL_len (by simpa using h)]
theorem pickL_at : ∀ {L : List (List Nat)} {I : List Nat} {j : Nat} (h : j < L.length), j < I.length → (pickL L I)[j]? = some (L[j].getD (I.getD j 0) 0)
  | [], _, _, h, _ => by simp at h
  | _ :: _, [], _, _, h => by simp at h
  | l :: L, i :: I, 0, _, _ => rfl
  | l :: L, i :: I, j + 1, h1, h2 => by simpa [pickL] using pickL_at (L := L) (I := I) (j := j) (by simpa using h1) (by simpa using h2)
/-- A list, and zeros behind its first k numbers. -/
def gmid (l : List Int) (n k : Nat) : List Int := l.take k ++ List.replicate (n - k) 0
theorem gmid_zero (l : List Int) (n : Nat) : zints (gmid l n 0) = ints .i64 (List.replicate n 0) := by simp [gmid, zints, ints]
theorem gmid_len {l : List Int} {n k : Nat} (h : l.length = n) (hk : k ≤ n) : (gmid l n k).length = n := by
  unfold gmid
  rw [List.length_append, List.length_take, List.length_replicate]; omega
theorem gmid_all {l : List Int} {n : Nat} (h : l.length = n) : gmid l n n = l := by
  unfold gmid
  rw [Nat.sub_self, List.replicate_zero, List.append_nil, List.take_of_length_le (by omega)]
theorem gmid_next {l : List Int} {n k : Nat} (h : l.length = n) (hk : k < n) : (gmid l n k).set k (l.getD k 0) = gmid l n (k + 1) := by
  unfold gmid
  rw [take_snocI (show k < l.length by omega), List.append_assoc, show n - k = (n - (k + 1)) + 1 by omega, List.replicate_succ, ← getD_zint (show k < l.length by omega)]
  exact set_mid _ _ _ _ _ (by rw [List.length_take]; omega)
/-- The choices under way. -/
structure TchAt (wB : World) (Lf : Nat → List (List Int)) (lo ob X k : Nat) (W : World) : Prop where
  below : Below wB.heap.size wB W
  out : ∃ v, Bk W ob 28 #[v] ∧ OwnG (some X) W lo v (Lf k)
  size : lo ≤ W.heap.size
  ord : wB.heap.size ≤ ob ∧ ob < lo
theorem TchAt.grown {w W W' : World} {Lf : Nat → List (List Int)} {lo ob X k : Nat} (h : TchAt w Lf lo ob X k W) {row : Option Nat} (hg : W.grownBy W' row) (hX : lo ≤ X) (hr : ∀ r, row = some r → r = X ∨ (lo ≤ r ∧ ∃ o : Obj, W.heap[r]? = some o ∧ o.isCells = false)) : TchAt w Lf lo ob X k W' := by
  obtain ⟨l1, l2⟩ := h.ord
  have hlo : ∀ r, row = some r → lo ≤ r := fun r e => by rcases hr r e with rfl | ⟨h2, _⟩ <;> omega
  obtain ⟨v, h1, h2⟩ := h.out
  refine ⟨h.below.grown hg h.below.size (fun r e => by have := hlo r e; omega), ⟨v, h1.grown hg (fun e => by have := hlo ob e.symm; omega), h2.grown hg (fun r e => ?_)⟩, Nat.le_trans h.size hg.size, h.ord⟩
  rcases hr r e with rfl | ⟨_, h3⟩
  · exact .inl rfl
  · exact .inr h3
theorem TchAt.next {w W W' : World} {Lf : Nat → List (List Int)} {lo ob X k : Nat} (h : TchAt w Lf lo ob X k W) (hb : Below W.heap.size W W') : TchAt w Lf lo ob X k W' := by
  obtain ⟨v, h1, h2⟩ := h.out
  exact ⟨h.below.trans (hb.mono h.below.size), ⟨v, h1.next' hb, h2.keep hb⟩, Nat.le_trans h.size hb.size, h.ord⟩
theorem wpListIn_append_list {w : World} {ops : Array Oper} {rest : List Oper} {o : Oper} {a : Act} {Q : Exit → Act → World → Prop} {l n : Nat} (hgd : o.guard = none) (s x : Operand)
    (ho : o.op = .call { callee := .builtin .append, args := #[s, x], argTypes := #[28, 28] })
    (av : Option Nat) (base : Nat) (v : Value) (L : List (List Int)) (hs : a.eval s = v) (hO : OwnG av w base v L) (hbase : base ≤ w.heap.size) (hL : L.length ≤ 1000000)
    (ad : Addr) (y : List Int) (u : Value) (hx : a.eval x = .slice (some ad) 1 1) (hc : w.cell? ad = some u) (hI : IsI w w.heap.size u y) (hu : ∀ X, av = some X → offX u X ∧ X < w.heap.size)
    (h : ∀ v' w', OwnG av w' base v' (L ++ [y]) → w.grownBy w' v.ownBlock → KeepsOthers w w' → (∀ g, v.ownBlock = some g → base ≤ g ∧ ∃ cur, w.heap[g]? = some (.cells cur 22)) → NoIntB w v.ownBlock → wpListIn (Fence.wide.inRound l) n Tryd.prog ops Q rest (a.put o.dst v') w') :
    wpListIn (Fence.wide.inRound l) n Tryd.prog ops Q (o :: rest) a w :=
  wpListIn_plain hgd fun _ hK => wpIn_of_wp (fun c e => by rw [ho] at e; cases e) (step_append_list s x ho av base v L hs hO hbase hL ad y u hx hc hI hu fun v' w' h2 h3 h4 h5 h6 => hK _ _ (h v' w' h2 h3 h4 h5 h6))
theorem getD_ofNat' (l : List Nat) (j : Nat) : (l.map Int.ofNat).getD j 0 = ((l.getD j 0 : Nat) : Int) := by
  rw [List.getD_eq_getElem?_getD, List.getD_eq_getElem?_getD, List.getElem?_map]
  cases l[j]? <;> rfl
theorem lsf_at {n j : Nat} {Vs : List Value} (h : j < Vs.length) : (lsf n Vs).toArray[j]? = Vs[j]? := by
  unfold lsf
  simp [List.getElem?_append_left h]
theorem wp_strict {P : Program} {c : Code} {b : Nat} {K : Act → World → Prop} {Q : Exit → Act → World → Prop} {a : Act} {w : World} (h : c.wp P (Exit.inBlock b (Exit.then K (fun _ _ _ => False))) a w) : c.wp P (Exit.inBlock b (Exit.then K Q)) a w :=
  Code.wp_mono (fun e a w h => by
    have m : ∀ e, Exit.then K (fun _ _ _ => False) e a w → Exit.then K Q e a w := fun e h => by cases e <;> first | exact h | exact False.elim h
    cases e <;> simp only [Exit.inBlock] at h ⊢ <;> first | exact m _ h | (split at h <;> first | (rename_i h1; rw [if_pos h1]; exact m _ h) | (rename_i h1; rw [if_neg h1]; exact m _ h))) h
theorem rd_new1 (w : World) (T : TypeId) (u : Value) : Rd (w.alloc (.cells #[u] T)) (w.heap.size + 1) (some ⟨w.heap.size, 0, none⟩) [u] := by
  have := Rd.of_new w [u] T
  simpa using this
set_option maxRecDepth 100000 in
set_option maxHeartbeats 12800000 in
theorem touched_any (S Z : List Int) (C : List Cut) (vs vz vk : Value) (w : World) (hS : IsI w w.heap.size vs S) (hZ : IsI w w.heap.size vz Z) (hk : IsK w w.heap.size vk C) (hL : S.length ≤ maxLen) (hM : Z.length ≤ maxLen) (hC : ∀ x ∈ C, In64 x) (hCL : C.length ≤ maxLen) :
    Calls Tryd.prog 6 #[vs, vz, vk] w fun e w' => Below w.heap.size w w' ∧ ∃ v, e = .returned (.tuple #[v, .int .i64 (touchedR S Z C).2]) ∧ IsG w' w'.heap.size v (touchedR S Z C).1 := by
  obtain ⟨A, c, rfl, hc⟩ := hS.form
  obtain ⟨A', c', rfl, hc'⟩ := hZ.form
  obtain ⟨Ak, ck, rfl, hck⟩ := hk.form
  have SZ := Lib.hid (sized_any S Z A A' c c' w.heap.size w.heap.size w hS.rd hZ.rd hL hM)
  by_cases h0 : sizedR S Z = 0
  rotate_left
  · rw [touchedR_no C h0]
    have hne : (sizedR S Z != 0) = true := by simp [h0]
    clear hS hZ hk hL hM hc hc' hck hC hCL
    generalize sizedR S Z = e0 at *
    go_enter Tryd.func6, Tryd.ntmps6
    go_wp2_with fail
    refine SZ.out.mono ?_
    rintro e w1 ⟨rfl, rfl⟩
    go_wp2
    go_ret2
    exact ⟨Below.refl _ _, _, rfl, IsG.nil _ _⟩
  obtain ⟨hV, hZs⟩ := sizedR_is h0
  rw [h0] at SZ
  obtain ⟨qf, hqf⟩ : ∃ b : Bool, b = true ↔ Fit S C := by classical exact ⟨decide _, decide_eq_true_iff⟩
  have FF := Lib.hid (fits_any C S Ak A ck c w hk.rd hS.rd hV.2.1 hC hCL qf hqf)
  cases hf : qf
  · have hno : ¬ Fit S C := fun h => by rw [hqf.2 h] at hf; cases hf
    rw [touchedR_slab h0 hno]
    subst hf
    clear hqf hno hS hZ hk hL hM hc hc' hck hC hCL hV hZs h0
    go_enter Tryd.func6, Tryd.ntmps6
    go_wp2_with fail
    refine SZ.out.mono ?_
    rintro e w1 ⟨rfl, rfl⟩
    go_wp2_with fail
    refine FF.out.mono ?_
    rintro e w2 ⟨hb2, rfl⟩
    go_wp2
    go_ret2
    exact ⟨hb2, _, rfl, IsG.nil _ _⟩
  have hF := hqf.1 hf
  subst hf
  rw [touchedR_ok h0 hF]
  have hlz := hZs.1
  have hlC := fit_len hF
  have h4 := hV.1
  have hC4 : C.length ≤ 4 := by omega
  obtain ⟨i0, hi0, hz0, hz1, hz2⟩ := info_parts Tryd.int_info
  have hmk := make_lists C.length (by omega)
  have hZn : (Z.map Int.toNat).length = C.length := by rw [List.length_map, hlz, hlC]
  have HFC := Lib.hid (fun k (hk : k < C.length) => show ∃ s : Int, FitC C[k] s ∧ s ≤ 1024 from by
    have h1 := ((fit_iff _ _).1 hF).2 k (by omega)
    rw [List.getD_eq_getElem?_getD, List.getElem?_eq_getElem hk] at h1
    exact ⟨_, h1, by rw [← getD_zint (show k < S.length by omega)]; exact (hV.2.1 _ (List.getElem_mem _)).2⟩)
  have HTK := Lib.hid (fun k (hk : k < C.length) => tlI_take (Zn := Z.map Int.toNat) hk (by omega))
  have HLK := Lib.hid (fun k (hk : k < C.length) => tlenI_take (Zn := Z.map Int.toNat) hk (by omega))
  have HZG := Lib.hid (fun j (hj : j < Z.length) => show (Z.map Int.toNat).getD j 0 = Z[j].toNat from by rw [getD_map, ← getD_zint hj])
  have HR' := Lib.hid (fun k (hk : k < Z.length) => show ∃ ad, A' = some ad ∧ (ad.add k).block < w.heap.size ∧ w.cell? (ad.add k) = some (.int .i64 Z[k]) from by
    obtain ⟨ad, e1, e2, e3⟩ := hZ.rd.zint hk
    exact ⟨ad, e1, by rw [addr_block]; exact e2, e3⟩)
  have HK := Lib.hid (fun W (hW : Below w.heap.size w W) k (hk2 : k < C.length) => (hk.rd.below hW).kut (i := k) hk2)
  have HZB := Lib.hid hZs.2
  have HLZ := Lib.hid (show Z.length = C.length from by rw [hlz, hlC])
  obtain ⟨hsz, hpn⟩ := lns_sz hV hF hZn
  have HSZ := Lib.hid hsz
  have HLN := Lib.hid (lns_len hZn)
  have HTL := Lib.hid (tls_len hZn)
  have HLI := Lib.hid (lns_int C (Z.map Int.toNat))
  have HCT := Lib.hid (show (cart (tls C (Z.map Int.toNat))).map (List.map Int.ofNat) = pks (tls C (Z.map Int.toNat)) (Ix.prod (lns C (Z.map Int.toNat))) from (pks_all _).symm)
  have HE1 := Lib.hid (show (tlI C (Z.map Int.toNat)).take C.length = tlI C (Z.map Int.toNat) from List.take_of_length_le (by unfold tlI; rw [List.length_map, tls_len hZn]; exact Nat.le_refl _))
  have HE2 := Lib.hid (show (tlenI C (Z.map Int.toNat)).take C.length = tlenI C (Z.map Int.toNat) from List.take_of_length_le (by unfold tlenI tlI; rw [List.length_map, List.length_map, tls_len hZn]; exact Nat.le_refl _))
  clear hS hZ hk hL hM hc hc' hck hC hCL hV hZs hF hqf h0 hlz hlC hZn hsz
  generalize Z.map Int.toNat = Zn at *
  rw [HCT.out]
  refine (callsIn_wide (n := 5)).1 ?_
  refine callsIn_of_wp_marks Tryd.func6 rfl trivial ?_ rfl
  refine wpIn_wide.2 ?_
  simp only [Tryd.ntmps6, List.size_toArray, List.length_cons, List.length_nil, Nat.reduceAdd, Nat.reduceSub, Array.replicate_succ, Array.replicate_zero, List.push_toArray, List.append_toArray, List.nil_append, List.cons_append]
  go_wp2_with fail
  refine SZ.out.mono ?_
  rintro e w1 ⟨rfl, rfl⟩
  go_wp2_with fail
  refine FF.out.mono ?_
  rintro e w1 ⟨hb1, rfl⟩
  clear SZ FF
  go_wp2_with fail
  have kl := Bk.new w1 22 (lsf C.length []).toArray
  have hb2 := hb1.trans ((below_alloc w1 (.cells (lsf C.length []).toArray 22)).mono hb1.size)
  have kl3 := kl.alloc (.cells #[.slice (some ⟨w1.heap.size, 0, none⟩) C.length C.length] 28)
  have kx := Bk.new2 w1 (.cells (lsf C.length []).toArray 22) 28 #[Value.slice (some ⟨w1.heap.size, 0, none⟩) C.length C.length]
  have hb3 := hb2.alloc hb2.size (.cells #[.slice (some ⟨w1.heap.size, 0, none⟩) C.length C.length] 28)
  have hs3 : ((w1.alloc (.cells (lsf C.length []).toArray 22)).alloc (.cells #[.slice (some ⟨w1.heap.size, 0, none⟩) C.length C.length] 28)).heap.size = w1.heap.size + 2 := by simp
  have l1 := hb1.size
  clear hb2 kl hb1 hmk
  generalize ((w1.alloc (.cells (lsf C.length []).toArray 22)).alloc (.cells #[.slice (some ⟨w1.heap.size, 0, none⟩) C.length C.length] 28)) = w3 at *
  generalize w1.heap.size = lb at *
  refine wp_strict ?_
  go_loopw [10, 35] (fun u i wr => ∃ (k : Nat) (Vs : List Value), k ≤ C.length ∧ i = .int .i64 k ∧ Hid (Vs.length = k) ∧ Bk wr lb 22 (lsf C.length Vs).toArray ∧ Bk wr (lb + 1) 28 #[.slice (some ⟨lb, 0, none⟩) C.length C.length] ∧ Done u.ownBlock wr wr.heap.size Vs ((tlI C Zn).take k) ∧ wr.ownsRow (lb + 2) 3 1 u k (zints ((tlenI C Zn).take k)) ∧ Below w.heap.size w wr ∧ lb + 2 ≤ wr.heap.size) (fun _ i _ => C.length - (intOf i).toNat)
  case atStart => exact ⟨0, [], Nat.zero_le _, rfl, rfl, kl3, kx, Done.nil _ _ _, World.ownsRow_nil _ _ _ _, hb3, by omega⟩
  case round =>
    clear kl3 kx hb3 hs3
    obtain ⟨k, Vs, hk, rfl, HVL, kl, kx, hD, hu, hB, hs⟩ := hrel
    obtain ⟨uA, uc, rfl⟩ := own_formV hu
    by_cases hlt : k < C.length
    · have hkz : k < Z.length := by rw [HLZ.out]; exact hlt
      obtain ⟨adk, rfl, hbk, t0, t1, t2⟩ := HK.out wr hB k hlt
      obtain ⟨ad', rfl, hab, hzw⟩ := HR'.out k hkz
      obtain ⟨s, hfc, hs1⟩ := HFC.out k hlt
      have b2 := HZB.out _ (List.getElem_mem hkz)
      have HG := HZG.out k hkz
      have HT := HTK.out k hlt
      have HL := HLK.out k hlt
      rw [HG] at HT HL
      generalize Z[k] = z at *
      obtain ⟨zn, rfl⟩ : ∃ zn : Nat, z = (zn : Int) := ⟨z.toNat, by omega⟩
      rw [Int.toNat_natCast] at HT HL
      rw [tl_int hfc zn] at HT HL
      have HTJ := Lib.hid (fun j (hj : j < C[k].2.1.toNat) => tline_take (c := C[k]) (z := zn) hj)
      have HFA := Lib.hid (fun (j : Nat) (hj : j < C[k].2.1.toNat) => fitC_at hfc (i := (j : Int)) (by omega) (by omega))
      have hF1 := hfc.1
      have hF2 := hfc.2.1
      have hLL : ((tline C[k] zn).map Int.ofNat).length = C[k].2.1.toNat := by rw [List.length_map, tline_len]
      have hcb : C[k].2.1 ≤ 1024 + 1 := by
        have h5 := hfc.2.2.2.2
        rcases Int.lt_or_le 0 C[k].2.1 with h6 | h6
        · have := (h5 h6).2
          have h7 := Int.ediv_le_self (a := s - 1 - C[k].1) C[k].2.2 (by have := (h5 h6).1; omega)
          omega
        · omega
      clear hfc HG
      generalize (tline C[k] zn).map Int.ofNat = ln at *
      generalize C[k] = x at *
      obtain ⟨a, b, d⟩ := x
      simp only at t0 t1 t2 HTJ HFA hF1 hF2 hLL hcb
      obtain ⟨n, rfl⟩ : ∃ n : Nat, b = (n : Int) := ⟨b.toNat, by omega⟩
      rw [Int.toNat_natCast] at hLL HTJ HFA
      go_wp2_with fail
      have hbA := below_alloc wr (.cells #[.int .i64 a, .int .i64 (n : Int), .int .i64 d] 45)
      have kcA := Bk.new wr 45 #[Value.int .i64 a, .int .i64 (n : Int), .int .i64 d]
      have klA := kl.next' hbA
      rw [lsf_open (by rw [HVL.out]; exact hlt)] at klA
      have kxA := kx.next' hbA
      have hDA := hD.below hbA
      have huA : (wr.alloc (.cells #[.int .i64 a, .int .i64 (n : Int), .int .i64 d] 45)).ownsRow (lb + 2) 3 1 (.slice uA k uc) k (zints ((tlenI C Zn).take k)) := hu.alloc _
      have hBA := hB.trans (hbA.mono hB.size)
      have hul : ∀ g, (Value.slice uA k uc).ownBlock = some g → lb + 2 ≤ g ∧ g < wr.heap.size := fun g hg => hu.lt g hg
      have hsA : (wr.alloc (.cells #[.int .i64 a, .int .i64 (n : Int), .int .i64 d] 45)).heap.size = wr.heap.size + 1 := by simp
      clear hbA kl kx hD hu hB t0 t1 t2
      generalize wr.alloc (.cells #[.int .i64 a, .int .i64 (n : Int), .int .i64 d] 45) = wA at *
      generalize wr.heap.size = cb at *
      go_loopw [42] (fun i wr => ∃ (j : Nat) (v : Value), j ≤ n ∧ i = .int .i64 j ∧ Bk wr lb 22 (lsc C.length Vs v).toArray ∧ Bk wr (lb + 1) 28 #[.slice (some ⟨lb, 0, none⟩) C.length C.length] ∧ Bk wr cb 45 #[.int .i64 a, .int .i64 (n : Int), .int .i64 d] ∧ Done (Value.slice uA k uc).ownBlock wr cb Vs ((tlI C Zn).take k) ∧ wr.ownsRow (lb + 2) 3 1 (.slice uA k uc) k (zints ((tlenI C Zn).take k)) ∧ wr.ownsRow (cb + 1) 3 1 v j (zints (ln.take j)) ∧ Below w.heap.size w wr ∧ cb + 1 ≤ wr.heap.size) (fun i _ => n - (intOf i).toNat)
      case atStart => exact ⟨0, _, Nat.zero_le _, rfl, klA, kxA, kcA, hDA, huA, World.ownsRow_nil _ _ _ _, hBA, by omega⟩
      case round =>
        clear klA kxA kcA hDA huA hBA hsA
        obtain ⟨j, v, hj, rfl, kl, kx, kc, hD, hu, hv, hB, hsz⟩ := hrel
        obtain ⟨vA, vc, rfl⟩ := own_formV hv
        have hcl : wr.cell? ⟨lb, k, none⟩ = some (.slice vA j vc) := by
          have h := kl.cell Vs.length
          rw [lsc_at, HVL.out] at h
          exact h
        have hfl := kl.frozen k
        have cx : wr.cell? ⟨lb + 1, 0, none⟩ = some (.slice (some ⟨lb, 0, none⟩) C.length C.length) := kx.cell 0
        by_cases hlj : j < n
        · have c0 : wr.cell? ⟨cb, 0, none⟩ = some (.int .i64 a) := kc.cell 0
          have c2 : wr.cell? ⟨cb, 2, none⟩ = some (.int .i64 d) := kc.cell 2
          have hz := (hB.cell hab).trans hzw
          obtain ⟨f1, f2⟩ := HFA.out j hlj
          have HTJj := Lib.hid (HTJ.out j hlj)
          have w1' : IntKind.i64.wrap ((j : Int) * d) = (j : Int) * d := IntWalk.i64_in _ (by omega)
          obtain ⟨jd, hjd⟩ : ∃ jd, jd = (j : Int) * d := ⟨_, rfl⟩
          rw [← hjd] at f1 f2 HTJj
          replace w1' : IntKind.i64.wrap ((j : Int) * d) = jd := w1'.trans hjd.symm
          clear hjd
          have w2' : IntKind.i64.wrap (a + jd) = a + jd := IntWalk.i64_in _ (by omega)
          obtain ⟨q, hq⟩ : ∃ q, q = (a + jd).toNat / zn := ⟨_, rfl⟩
          have hqy : q ≤ (a + jd).toNat := by rw [hq]; exact Nat.div_le_self _ _
          rw [← hq] at HTJj
          have w5' : (a + jd).tdiv (zn : Int) = (q : Int) := by
            rw [Int.tdiv_eq_ediv_of_nonneg (by omega), hq]
            refine Eq.trans ?_ (show (((a + jd).toNat : Nat) : Int) / (zn : Int) = _ from rfl)
            rw [Int.toNat_of_nonneg (by omega)]
          have w4' : IntKind.i64.wrap (q : Int) = (q : Int) := IntWalk.i64_in _ (by omega)
          have hz0' : ((zn : Int) == 0) = false := by simp; omega
          have hz0'' : (zn : Int) ≠ 0 := by omega
          have hzn0 : zn ≠ 0 := by omega
          clear hq
          go_wp2_with fail
          refine wp_region_M 21 (by kernel_rfl) (fun Y => ((Y.cell? ⟨lb + 1, 0, none⟩ = some (.slice (some ⟨lb, 0, none⟩) C.length C.length) ∧ Y.cell? ⟨lb, k, none⟩ = some (.slice vA j vc)) ∧ (Y.cell? ⟨cb, 0, none⟩ = some (.int .i64 a) ∧ Y.cell? ⟨cb, 2, none⟩ = some (.int .i64 d))) ∧ Y.cell? (ad'.add k) = some (.int .i64 (zn : Int))) ⟨⟨⟨cx, hcl⟩, ⟨c0, c2⟩⟩, hz⟩ (fun hS0 => ?_)
          have hB' := hB.drew
          have hD' : Done (Value.slice uA k uc).ownBlock wr.drew cb Vs ((tlI C Zn).take k) := hD.below ((Below.refl cb wr).drew)
          have kl' : Bk wr.drew lb 22 (lsc C.length Vs (.slice vA j vc)).toArray := kl
          have kx' : Bk wr.drew (lb + 1) 28 #[.slice (some ⟨lb, 0, none⟩) C.length C.length] := kx
          have kc' : Bk wr.drew cb 45 #[.int .i64 a, .int .i64 (n : Int), .int .i64 d] := kc
          have hu' : wr.drew.ownsRow (lb + 2) 3 1 (.slice uA k uc) k (zints ((tlenI C Zn).take k)) := hu
          have hv' : wr.drew.ownsRow (cb + 1) 3 1 (.slice vA j vc) j (zints (ln.take j)) := hv
          have hsz' : cb + 1 ≤ wr.drew.heap.size := hsz
          clear hB hD kl kx kc hu hv hsz hcl hfl cx c0 c2 hz
          generalize wr.drew = wd at *
          refine takeM (i := 0) (v := ?_) rfl (by kernel_rfl) (by decide) (by kernel_rfl) (by kernel_rfl) (by kernel_rfl) (fun _ _ _ h => h) (by rfl) (by assumption) ?_ ?_
          rotate_left
          · intro w hSw; (try dsimp only at hSw); go_simp <;> with_reducible rfl
          try simp only [Act.put, List.setIfInBounds_toArray, List.set_cons_zero, List.set_cons_succ]
          refine takeM (i := 1) (v := ?_) rfl (by kernel_rfl) (by decide) (by kernel_rfl) (by kernel_rfl) (by kernel_rfl) (fun _ _ _ h => h) (by rfl) (by assumption) ?_ ?_
          rotate_left
          · intro w hSw; (try dsimp only at hSw); go_simp <;> with_reducible rfl
          try simp only [Act.put, List.setIfInBounds_toArray, List.set_cons_zero, List.set_cons_succ]
          refine takeM (i := 2) (v := ?_) rfl (by kernel_rfl) (by decide) (by kernel_rfl) (by kernel_rfl) (by kernel_rfl) (fun _ _ _ h => h) (by rfl) (by assumption) ?_ ?_
          rotate_left
          · intro w hSw; (try dsimp only at hSw); go_simp <;> with_reducible rfl
          try simp only [Act.put, List.setIfInBounds_toArray, List.set_cons_zero, List.set_cons_succ]
          refine takeM (i := 3) (v := ?_) rfl (by kernel_rfl) (by decide) (by kernel_rfl) (by kernel_rfl) (by kernel_rfl) (fun _ _ _ h => h) (by rfl) (by assumption) ?_ ?_
          rotate_left
          · intro w hSw; (try dsimp only at hSw); go_simp <;> with_reducible rfl
          try simp only [Act.put, List.setIfInBounds_toArray, List.set_cons_zero, List.set_cons_succ]
          refine takeM (i := 4) (v := ?_) rfl (by kernel_rfl) (by decide) (by kernel_rfl) (by kernel_rfl) (by kernel_rfl) (fun _ _ _ h => h) (by rfl) (by assumption) ?_ ?_
          rotate_left
          · intro w hSw; (try dsimp only at hSw); go_simp <;> with_reducible rfl
          try simp only [Act.put, List.setIfInBounds_toArray, List.set_cons_zero, List.set_cons_succ]
          refine takeM (i := 5) (v := ?_) rfl (by kernel_rfl) (by decide) (by kernel_rfl) (by kernel_rfl) (by kernel_rfl) (fun _ _ _ h => h) (by rfl) (by assumption) ?_ ?_
          rotate_left
          · intro w hSw; (try dsimp only at hSw); go_simp <;> with_reducible rfl
          try simp only [Act.put, List.setIfInBounds_toArray, List.set_cons_zero, List.set_cons_succ]
          refine takeM (i := 6) (v := ?_) rfl (by kernel_rfl) (by decide) (by kernel_rfl) (by kernel_rfl) (by kernel_rfl) (fun _ _ _ h => h) (by rfl) (by assumption) ?_ ?_
          rotate_left
          · intro w hSw; (try dsimp only at hSw); go_simp <;> with_reducible rfl
          try simp only [Act.put, List.setIfInBounds_toArray, List.set_cons_zero, List.set_cons_succ]
          refine takeM (i := 7) (v := ?_) rfl (by kernel_rfl) (by decide) (by kernel_rfl) (by kernel_rfl) (by kernel_rfl) (fun _ _ _ h => h) (by rfl) (by assumption) ?_ ?_
          rotate_left
          · intro w hSw; (try dsimp only at hSw); go_simp <;> with_reducible rfl
          try simp only [Act.put, List.setIfInBounds_toArray, List.set_cons_zero, List.set_cons_succ]
          refine takeM (i := 8) (v := ?_) rfl (by kernel_rfl) (by decide) (by kernel_rfl) (by kernel_rfl) (by kernel_rfl) (fun _ _ _ h => h) (by rfl) (by assumption) ?_ ?_
          rotate_left
          · intro w hSw; (try dsimp only at hSw); go_simp <;> with_reducible rfl
          try simp only [Act.put, List.setIfInBounds_toArray, List.set_cons_zero, List.set_cons_succ]
          refine takeM (i := 9) (v := ?_) rfl (by kernel_rfl) (by decide) (by kernel_rfl) (by kernel_rfl) (by kernel_rfl) (fun _ _ _ h => h) (by rfl) (by assumption) ?_ ?_
          rotate_left
          · intro w hSw; (try dsimp only at hSw); go_simp <;> with_reducible rfl
          try simp only [Act.put, List.setIfInBounds_toArray, List.set_cons_zero, List.set_cons_succ]
          refine takeM (i := 10) (v := ?_) rfl (by kernel_rfl) (by decide) (by kernel_rfl) (by kernel_rfl) (by kernel_rfl) (fun _ _ _ h => h) (by rfl) (by assumption) ?_ ?_
          rotate_left
          · intro w hSw; (try dsimp only at hSw); go_simp <;> with_reducible rfl
          try simp only [Act.put, List.setIfInBounds_toArray, List.set_cons_zero, List.set_cons_succ]
          refine takeM (i := 11) (v := ?_) rfl (by kernel_rfl) (by decide) (by kernel_rfl) (by kernel_rfl) (by kernel_rfl) (fun _ _ _ h => h) (by rfl) (by assumption) ?_ ?_
          rotate_left
          · intro w hSw; (try dsimp only at hSw); go_simp <;> with_reducible rfl
          try simp only [Act.put, List.setIfInBounds_toArray, List.set_cons_zero, List.set_cons_succ]
          refine takeM (i := 12) (v := ?_) rfl (by kernel_rfl) (by decide) (by kernel_rfl) (by kernel_rfl) (by kernel_rfl) (fun _ _ _ h => h) (by rfl) (by assumption) ?_ ?_
          rotate_left
          · intro w hSw; (try dsimp only at hSw); go_simp <;> with_reducible rfl
          try simp only [Act.put, List.setIfInBounds_toArray, List.set_cons_zero, List.set_cons_succ]
          refine takeM (i := 13) (v := ?_) rfl (by kernel_rfl) (by decide) (by kernel_rfl) (by kernel_rfl) (by kernel_rfl) (fun _ _ _ h => h) (by rfl) (by assumption) ?_ ?_
          rotate_left
          · intro w hSw; (try dsimp only at hSw); go_simp <;> with_reducible rfl
          try simp only [Act.put, List.setIfInBounds_toArray, List.set_cons_zero, List.set_cons_succ]
          refine takeM (i := 14) (v := ?_) rfl (by kernel_rfl) (by decide) (by kernel_rfl) (by kernel_rfl) (by kernel_rfl) (fun _ _ _ h => h) (by rfl) (by assumption) ?_ ?_
          rotate_left
          · intro w hSw; (try dsimp only at hSw); go_simp <;> with_reducible rfl
          try simp only [Act.put, List.setIfInBounds_toArray, List.set_cons_zero, List.set_cons_succ]
          refine takeM (i := 15) (v := ?_) rfl (by kernel_rfl) (by decide) (by kernel_rfl) (by kernel_rfl) (by kernel_rfl) (fun _ _ _ h => h) (by rfl) (by assumption) ?_ ?_
          rotate_left
          · intro w hSw; (try dsimp only at hSw); go_simp <;> with_reducible rfl
          try simp only [Act.put, List.setIfInBounds_toArray, List.set_cons_zero, List.set_cons_succ]
          refine takeM (i := 16) (v := ?_) rfl (by kernel_rfl) (by decide) (by kernel_rfl) (by kernel_rfl) (by kernel_rfl) (fun _ _ _ h => h) (by rfl) (by assumption) ?_ ?_
          rotate_left
          · intro w hSw; (try dsimp only at hSw); go_simp <;> with_reducible rfl
          try simp only [Act.put, List.setIfInBounds_toArray, List.set_cons_zero, List.set_cons_succ]
          refine takeM (i := 17) (v := ?_) rfl (by kernel_rfl) (by decide) (by kernel_rfl) (by kernel_rfl) (by kernel_rfl) (fun _ _ _ h => h) (by rfl) (by assumption) ?_ ?_
          rotate_left
          · intro w hSw; (try dsimp only at hSw); go_simp <;> with_reducible rfl
          try simp only [Act.put, List.setIfInBounds_toArray, List.set_cons_zero, List.set_cons_succ]
          clear hS0
          have hb5 := below_alloc wd (.cells #[.int .i64 (q : Int)] 3)
          have hB5 := hB'.trans (hb5.mono hB'.size)
          have hD5 := hD'.below (hb5.mono (by omega))
          have kl5 := kl'.next' hb5
          have kx5 := kx'.next' hb5
          have kc5 := kc'.next' hb5
          have hu5 : (wd.alloc (.cells #[.int .i64 (q : Int)] 3)).ownsRow (lb + 2) 3 1 (.slice uA k uc) k (zints ((tlenI C Zn).take k)) := hu'.alloc _
          have hv5 : (wd.alloc (.cells #[.int .i64 (q : Int)] 3)).ownsRow (cb + 1) 3 1 (.slice vA j vc) j (zints (ln.take j)) := hv'.alloc _
          have hz5 := hb5.size
          have cl5 : (wd.alloc (.cells #[.int .i64 (q : Int)] 3)).cell? ⟨lb, k, none⟩ = some (.slice vA j vc) := by
            have h := kl5.cell Vs.length
            rw [lsc_at, HVL.out] at h
            exact h
          refine stepM (i := 18) rfl (by kernel_rfl) (fun K0 hK0 => ?_)
          go_simp
          refine hK0.out _ _ (fun _ => ⟨⟨⟨kx5.cell 0, cl5⟩, ⟨kc5.cell 0, kc5.cell 2⟩⟩, (hB5.cell hab).trans hzw⟩) (fun _ => ?_)
          clear hK0 K0 hB' hD' kl' kx' kc' hu' hv' cl5
          try simp only [Act.put, List.setIfInBounds_toArray, List.set_cons_zero, List.set_cons_succ]
          refine stepM (i := 19) rfl (by kernel_rfl) (fun K0 hK0 => ?_)
          try rw [if_pos (by rfl)]
          refine step_append_own (.tmp 50) (.tmp 63) 22 rfl (cb + 1) 3 i0 (.int .i64 0) 1 8 Tryd.underlying22 hi0 hz0 hz1 hz2 rfl (by omega) (.slice vA j vc) j _ (by rfl) hv5 ⟨wd.heap.size, 0, none⟩ 1 1 [.int .i64 (q : Int)] (by rfl) (by rfl) (new_int wd _ (q : Int)) (zints_one [(q : Int)]) (by unfold maxLen; omega) (by omega) (by omega) ?_
          intro v1 w8 hown1 hg1
          obtain ⟨A1, c1, rfl⟩ := own_formV hown1
          have hr1 : ∀ r, (Value.slice vA j vc).ownBlock = some r → cb + 1 ≤ r := fun r e => (hv5.lt r e).1
          have hbs := hB5.size
          have kl8 := kl5.grown hg1 (fun e => by have := hr1 _ e.symm; have := hb5.size; omega)
          have kx8 := kx5.grown hg1 (fun e => by have := hr1 _ e.symm; omega)
          have kc8 := kc5.grown hg1 (fun e => by have := hr1 _ e.symm; omega)
          have hD8 := hD5.grown hg1 (by omega) (fun r e => by have := hr1 r e; omega)
          have hu8 := hu5.kept hg1 (by
            cases e : (Value.slice uA k uc).ownBlock with
            | none => exact .inl rfl
            | some g => exact .inr (fun e2 => by have := (hul g e).2; have := hr1 g e2.symm; omega))
          have hB8 := hB5.grown hg1 hB5.size (fun r e => by have := hr1 r e; omega)
          have hz8 := hg1.size
          have cl8 : w8.cell? ⟨lb, k, none⟩ = some (.slice vA j vc) := by
            have h := kl8.cell Vs.length
            rw [lsc_at, HVL.out] at h
            exact h
          have fl8 := kl8.frozen k
          have hO8 : w8.ownsRow (cb + 1) 3 1 (.slice A1 (j + 1) c1) (j + 1) (zints (ln.take (j + 1))) := by rw [HTJj.out, zints_app]; exact hown1
          dsimp only
          have hS8 : ((w8.cell? ⟨lb + 1, 0, none⟩ = some (.slice (some ⟨lb, 0, none⟩) C.length C.length) ∧ w8.cell? ⟨lb, k, none⟩ = some (.slice vA j vc)) ∧ (w8.cell? ⟨cb, 0, none⟩ = some (.int .i64 a) ∧ w8.cell? ⟨cb, 2, none⟩ = some (.int .i64 d))) ∧ w8.cell? (ad'.add k) = some (.int .i64 (zn : Int)) := ⟨⟨⟨kx8.cell 0, cl8⟩, ⟨kc8.cell 0, kc8.cell 2⟩⟩, (hB8.cell hab).trans hzw⟩
          refine hK0.out _ _ (fun _ => hS8) (fun _ => ?_)
          clear hK0 K0 hown1 hg1 hv5 hu5 hD5 kl5 kx5 kc5 hB5 hb5
          try simp only [Act.put, List.setIfInBounds_toArray, List.set_cons_zero, List.set_cons_succ]
          refine takeM (i := 20) (v := ?_) rfl (by kernel_rfl) (by decide) (by kernel_rfl) (by kernel_rfl) (by kernel_rfl) (fun _ _ _ h => h) (by rfl) (by assumption) ?_ ?_
          rotate_left
          · intro w hSw; (try dsimp only at hSw); go_simp <;> with_reducible rfl
          try simp only [Act.put, List.setIfInBounds_toArray, List.set_cons_zero, List.set_cons_succ]
          clear hS8
          refine stepM (i := 21) rfl (by kernel_rfl) (fun K0 hK0 => ?_)
          go_simp
          refine hK0.out _ _ (fun h => absurd rfl h) (fun _ => ?_)
          clear hK0 K0
          try simp only [Act.put, List.setIfInBounds_toArray, List.set_cons_zero, List.set_cons_succ]
          refine doneM (by kernel_rfl) ?_ _
          have k2 := kl8.put Vs.length (.slice A1 (j + 1) c1)
          rw [lsc_set, HVL.out] at k2
          have KL := Lib.hid k2
          have KX := Lib.hid (kx8.far (p := ⟨lb, k, none⟩) (by show lb + 1 ≠ lb; omega) (.slice A1 (j + 1) c1))
          have KC := Lib.hid (kc8.far (p := ⟨lb, k, none⟩) (by show cb ≠ lb; omega) (.slice A1 (j + 1) c1))
          have KD := Lib.hid (hD8.put_out cl8 (fun k i => by simp) (.slice A1 (j + 1) c1))
          have KU := Lib.hid (OwnsRow_far hu8 (p := ⟨lb, k, none⟩) (fun e => by have := (hul _ e).1; simp only at this; omega) (.slice A1 (j + 1) c1))
          have KV := Lib.hid (OwnsRow_far hO8 (p := ⟨lb, k, none⟩) (fun e => by have := (hO8.lt _ e).1; simp only at this; omega) (.slice A1 (j + 1) c1))
          have KB := Lib.hid (hB8.setCell (p := ⟨lb, k, none⟩) l1 (.slice A1 (j + 1) c1))
          have KZ : cb + 1 ≤ (w8.setCell ⟨lb, k, none⟩ (.slice A1 (j + 1) c1)).heap.size := by rw [sz_setCell]; omega
          clear k2 kl8 kx8 kc8 hD8 hu8 hO8 hB8 cl8 fl8
          go_wp2
          go_roundw
          case rel => exact ⟨j + 1, _, by omega, by go_num, KL.out, KX.out, KC.out, KD.out, KU.out, KV.out, KB.out, KZ⟩
          case measure => simp [intOf]; omega
        · obtain rfl : j = n := by omega
          rw [List.take_of_length_le (by omega)] at hv
          go_wp2_with fail
          refine wp_region_M 8 (by kernel_rfl) (fun Y => Y.cell? ⟨lb + 1, 0, none⟩ = some (.slice (some ⟨lb, 0, none⟩) C.length C.length) ∧ Y.cell? ⟨lb, k, none⟩ = some (.slice vA j vc)) ⟨cx, hcl⟩ (fun hS0 => ?_)
          have hB' := hB.drew
          have hD' : Done (Value.slice uA k uc).ownBlock wr.drew cb Vs ((tlI C Zn).take k) := hD.below ((Below.refl cb wr).drew)
          have kl' : Bk wr.drew lb 22 (lsc C.length Vs (.slice vA j vc)).toArray := kl
          have kx' : Bk wr.drew (lb + 1) 28 #[.slice (some ⟨lb, 0, none⟩) C.length C.length] := kx
          have hu' : wr.drew.ownsRow (lb + 2) 3 1 (.slice uA k uc) k (zints ((tlenI C Zn).take k)) := hu
          have hv' : wr.drew.ownsRow (cb + 1) 3 1 (.slice vA j vc) j (zints ln) := hv
          have hsz' : cb + 1 ≤ wr.drew.heap.size := hsz
          clear hB hD kl kx kc hu hv hsz hcl hfl cx
          generalize wr.drew = wd at *
          have CPT := Lib.hid (compact_any hv')
          refine takeM (i := 0) (v := ?_) rfl (by kernel_rfl) (by decide) (by kernel_rfl) (by kernel_rfl) (by kernel_rfl) (fun _ _ _ h => h) (by rfl) (by assumption) ?_ ?_
          rotate_left
          · intro w hSw; (try dsimp only at hSw); go_simp <;> with_reducible rfl
          try simp only [Act.put, List.setIfInBounds_toArray, List.set_cons_zero, List.set_cons_succ]
          refine takeM (i := 1) (v := ?_) rfl (by kernel_rfl) (by decide) (by kernel_rfl) (by kernel_rfl) (by kernel_rfl) (fun _ _ _ h => h) (by rfl) (by assumption) ?_ ?_
          rotate_left
          · intro w hSw; (try dsimp only at hSw); go_simp <;> with_reducible rfl
          try simp only [Act.put, List.setIfInBounds_toArray, List.set_cons_zero, List.set_cons_succ]
          refine takeM (i := 2) (v := ?_) rfl (by kernel_rfl) (by decide) (by kernel_rfl) (by kernel_rfl) (by kernel_rfl) (fun _ _ _ h => h) (by rfl) (by assumption) ?_ ?_
          rotate_left
          · intro w hSw; (try dsimp only at hSw); go_simp <;> with_reducible rfl
          try simp only [Act.put, List.setIfInBounds_toArray, List.set_cons_zero, List.set_cons_succ]
          refine takeM (i := 3) (v := ?_) rfl (by kernel_rfl) (by decide) (by kernel_rfl) (by kernel_rfl) (by kernel_rfl) (fun _ _ _ h => h) (by rfl) (by assumption) ?_ ?_
          rotate_left
          · intro w hSw; (try dsimp only at hSw); go_simp <;> with_reducible rfl
          try simp only [Act.put, List.setIfInBounds_toArray, List.set_cons_zero, List.set_cons_succ]
          refine takeM (i := 4) (v := ?_) rfl (by kernel_rfl) (by decide) (by kernel_rfl) (by kernel_rfl) (by kernel_rfl) (fun _ _ _ h => h) (by rfl) (by assumption) ?_ ?_
          rotate_left
          · intro w hSw; (try dsimp only at hSw); go_simp <;> with_reducible rfl
          try simp only [Act.put, List.setIfInBounds_toArray, List.set_cons_zero, List.set_cons_succ]
          refine takeM (i := 5) (v := ?_) rfl (by kernel_rfl) (by decide) (by kernel_rfl) (by kernel_rfl) (by kernel_rfl) (fun _ _ _ h => h) (by rfl) (by assumption) ?_ ?_
          rotate_left
          · intro w hSw; (try dsimp only at hSw); go_simp <;> with_reducible rfl
          try simp only [Act.put, List.setIfInBounds_toArray, List.set_cons_zero, List.set_cons_succ]
          clear hS0
          refine stepM (i := 6) rfl (by kernel_rfl) (fun K0 hK0 => ?_)
          go_simp
          refine CPT.out.mono ?_
          rintro e w7 ⟨hg7, hz7, v7, rfl, hI7, ho7⟩
          obtain ⟨A7, c7, rfl, hc7⟩ := hI7.form
          have hr7 : ∀ r, (Value.slice vA j vc).ownBlock = some r → cb + 1 ≤ r := fun r e => (hv'.lt r e).1
          have hbs := hB'.size
          have kl7 := kl'.grown hg7 (fun e => by have := hr7 _ e.symm; omega)
          have kx7 := kx'.grown hg7 (fun e => by have := hr7 _ e.symm; omega)
          have hD7 := hD'.grown hg7 (by omega) (fun r e => by have := hr7 r e; omega)
          have hu7 := hu'.kept hg7 (by
            cases e : (Value.slice uA k uc).ownBlock with
            | none => exact .inl rfl
            | some g => exact .inr (fun e2 => by have := (hul g e).2; have := hr7 g e2.symm; omega))
          have hB7 := hB'.grown hg7 hB'.size (fun r e => by have := hr7 r e; omega)
          have cl7 : w7.cell? ⟨lb, k, none⟩ = some (.slice vA j vc) := by
            have h := kl7.cell Vs.length
            rw [lsc_at, HVL.out] at h
            exact h
          have fl7 := kl7.frozen k
          dsimp only
          have hS7 : w7.cell? ⟨lb + 1, 0, none⟩ = some (.slice (some ⟨lb, 0, none⟩) C.length C.length) ∧ w7.cell? ⟨lb, k, none⟩ = some (.slice vA j vc) := ⟨kx7.cell 0, cl7⟩
          refine hK0.out _ _ (fun _ => hS7) (fun _ => ?_)
          clear hK0 K0 CPT kl' kx' hD' hu' hB' hg7
          try simp only [Act.put, List.setIfInBounds_toArray, List.set_cons_zero, List.set_cons_succ]
          refine takeM (i := 7) (v := ?_) rfl (by kernel_rfl) (by decide) (by kernel_rfl) (by kernel_rfl) (by kernel_rfl) (fun _ _ _ h => h) (by rfl) (by assumption) ?_ ?_
          rotate_left
          · intro w hSw; (try dsimp only at hSw); go_simp <;> with_reducible rfl
          try simp only [Act.put, List.setIfInBounds_toArray, List.set_cons_zero, List.set_cons_succ]
          clear hS7
          refine stepM (i := 8) rfl (by kernel_rfl) (fun K0 hK0 => ?_)
          go_simp
          refine hK0.out _ _ (fun h => absurd rfl h) (fun _ => ?_)
          clear hK0 K0
          try simp only [Act.put, List.setIfInBounds_toArray, List.set_cons_zero, List.set_cons_succ]
          refine doneM (by kernel_rfl) ?_ _
          have k9 := kl7.put Vs.length (.slice A7 (Lib.compact ln).length c7)
          rw [lsc_set, HVL.out, lsf_close] at k9
          have cl9 : (w7.setCell ⟨lb, k, none⟩ (.slice A7 (Lib.compact ln).length c7)).cell? ⟨lb, k, none⟩ = some (.slice A7 (Lib.compact ln).length c7) := by
            have h := k9.cell Vs.length
            rw [← lsf_close, lsc_at, HVL.out] at h
            exact h
          have kx9 := kx7.far (p := ⟨lb, k, none⟩) (by show lb + 1 ≠ lb; omega) (.slice A7 (Lib.compact ln).length c7)
          have cx9 : (w7.setCell ⟨lb, k, none⟩ (.slice A7 (Lib.compact ln).length c7)).cell? ⟨lb + 1, 0, none⟩ = some (.slice (some ⟨lb, 0, none⟩) C.length C.length) := kx9.cell 0
          have hD9 := hD7.put_out cl7 (fun k i => by simp) (.slice A7 (Lib.compact ln).length c7)
          have hI9 := hI7.put_out cl7 (fun k i => by simp) (.slice A7 (Lib.compact ln).length c7)
          have hu9 := OwnsRow_far hu7 (p := ⟨lb, k, none⟩) (fun e => by have := (hul _ e).1; simp only at this; omega) (.slice A7 (Lib.compact ln).length c7)
          have hB9 := hB7.setCell (p := ⟨lb, k, none⟩) l1 (.slice A7 (Lib.compact ln).length c7)
          have hz9 : (w7.setCell ⟨lb, k, none⟩ (.slice A7 (Lib.compact ln).length c7)).heap.size = w7.heap.size := sz_setCell _ _ _
          have hD9' := (hD9.more (B' := w7.heap.size) (by omega)).add hI9 (fun X hX hne ad m c e => by
            have h1 := ho7 ad m c e
            have h2 := hr7 _ h1
            have h3 := (hul X hX).2
            omega)
          rw [← HT] at hD9'
          have hcl9 := compact_len ln
          clear kl7 kx7 hD7 hI7 hu7 hB7 cl7 fl7 hD9 hI9 ho7 hv'
          generalize w7.setCell ⟨lb, k, none⟩ (.slice A7 (Lib.compact ln).length c7) = w9 at *
          have hHL := Lib.hid HL
          have hz97 : w7.heap.size ≤ w9.heap.size := by omega
          clear HL HT hz9
          generalize (Lib.compact ln).length = m at *
          have hb10 := below_alloc w9 (.cells #[.int .i64 (m : Int)] 3)
          have hu10 : (w9.alloc (.cells #[.int .i64 (m : Int)] 3)).ownsRow (lb + 2) 3 1 (.slice uA k uc) k (zints ((tlenI C Zn).take k)) := hu9.alloc _
          have hr10 : ∀ r, (Value.slice uA k uc).ownBlock = some r → lb + 2 ≤ r := fun r e => (hul r e).1
          have k10 := k9.next' hb10
          have kx10 := kx9.next' hb10
          have hB10 := hB9.trans (hb10.mono hB9.size)
          have hD10 := hD9'.below (hb10.mono (by omega))
          have hz10 := hb10.size
          have l9 := kx9.lt
          clear k9 kx9 hB9 hD9' hu9
          go_wp2_with (at_builtin; go_loud (refine wpL_append _ rfl (.tmp 75) (.tmp 81) _ rfl (lb + 2) 3 i0 _ 1 8 Tryd.underlying22 hi0 hz0 hz1 hz2 rfl (by omega) _ k _ rfl hu10 _ 1 1 [.int .i64 (m : Int)] rfl rfl (rd_new1 w9 _ _) (zints_one [(m : Int)]) (by unfold maxLen; omega) (by omega) (by omega) ?_; intro v1 w11 hown hg11 hat11; have k11 := k10.grown hg11 (fun e => by have := hr10 _ e.symm; omega); have kx11 := kx10.grown hg11 (fun e => by have := hr10 _ e.symm; omega); have hD11 := hD10.app (by omega) hg11 hat11; have hB11 := hB10.grown hg11 hB10.size (fun r e => by have := hr10 r e; omega); have hz11 := hg11.size; clear hg11 hat11 hu10 k10 kx10 hD10 hB10))
          have HO : Hid (w11.ownsRow (lb + 2) 3 1 v1 (k + 1) (zints ((tlenI C Zn).take (k + 1)))) := by
            show w11.ownsRow _ _ _ _ _ _
            rw [hHL.out, zints_app]; exact hown
          clear hown
          go_roundw
          case rel => exact ⟨k + 1, _, by omega, by go_num, (by show _ = _; rw [List.length_append, HVL.out]; rfl), k11, kx11, hD11.more (by omega), HO.out, hB11, by omega⟩
          case measure => simp [intOf]; omega
    · obtain rfl : k = C.length := by omega
      rw [HE1.out] at hD
      rw [HE2.out] at hu
      obtain ⟨wB, rfl⟩ : ∃ wB, wB = wr := ⟨_, rfl⟩
      clear HK HR' HZB HTK HLK HZG HFC HE1 HE2 HCT h4
      rw [HLI.out] at hu
      have hrd := Rd.of_own hu
      have hln : (lns C Zn).length ≤ 4 := by rw [HLN.out]; exact hC4
      obtain ⟨ls, hls⟩ : ∃ ls, ls = lns C Zn := ⟨_, rfl⟩
      have HLT := Lib.hid (show ls = (tls C Zn).map List.length from hls)
      rw [← hls] at hrd HSZ HLN hpn hln
      have HLS := Lib.hid hls
      obtain ⟨N, hN⟩ : ∃ N, N = Ix.prod ls := ⟨_, rfl⟩
      rw [← hN] at hpn
      have HN := Lib.hid hN
      have hmk2 := make_ints (P := Tryd.prog) 22 3 i0 .i64 Tryd.underlying22 hi0 hz0 hz1 (by omega) .i64 .i64 ls.length (ls.length : Int) rfl (by omega)
      clear HLI hu hls hN
      go_wp2_with fail
      refine (indexes_any uA C.length uc _).mono ?_
      rintro e w6 ⟨rfl, rfl⟩
      have hbO := below_alloc wB (.cells #[.slice none 0 0] 28)
      have k1 := (Bk.new wB 28 #[Value.slice none 0 0]).alloc (.cells #[.slice uA C.length uc] 22)
      have kbx := Bk.new2 wB (.cells #[.slice none 0 0] 28) 22 #[Value.slice uA C.length uc]
      have hb6 := hbO.alloc hbO.size (.cells #[.slice uA C.length uc] 22)
      have hr6 := hrd.below hb6
      have hs6 : ((wB.alloc (.cells #[.slice none 0 0] 28)).alloc (.cells #[.slice uA C.length uc] 22)).heap.size = wB.heap.size + 2 := by simp
      clear hbO hrd
      go_wp2_with fail
      generalize ((wB.alloc (.cells #[.slice none 0 0] 28)).alloc (.cells #[.slice uA C.length uc] 22)) = w6 at *
      have kbx' : w6.cell? ⟨wB.heap.size + 1, 0, none⟩ = some (.slice uA ls.length uc) := by rw [HLN.out]; exact kbx.cell 0
      have G := indexes1_gives ls uA uc (wB.heap.size + 1) wB.heap.size 4 w6 (by omega) HSZ.out (by omega) (by omega) kbx' hr6
      have eI : idxArgs ls = fun X k => #[.int .i64 (k : Int), .slice (some ⟨X, 0, none⟩) ls.length ls.length] := rfl
      rw [← HN.out, eI] at G
      have M0 : ∀ X, TchAt wB (pks (tls C Zn)) w6.heap.size wB.heap.size X 0 w6 := fun X => ⟨hb6, ⟨_, k1, OwnG.nil _ _ _⟩, Nat.le_refl _, Nat.le_refl _, by omega⟩
      clear hb6 k1 kbx kbx' hr6 eI
      refine wpIn_wide (n := 5).1 ?_
      apply wpIn_range_idx (n := 5) rfl (by omega) (gf := 31) (lb := #[.pointer (some ⟨wB.heap.size + 1, 0, none⟩)]) rfl trivial (enters_of Tryd.func31 (by kernel_rfl) rfl) G (Below.refl _ _) (fun _ _ => rfl)
        (fun X k A l o o' _ h1 h2 h3 => h1.put o' h2 h3)
        (fun X k W => w6.heap.size ≤ X → TchAt wB (pks (tls C Zn)) w6.heap.size wB.heap.size X k W)
        (fun X k A B row hX h1 hg hr hlX => (h1 hlX).grown hg hlX hr)
        (fun X r hlX => ((M0 X).next (below_alloc _ _)).next (below_alloc _ _))
      case hassign =>
        intro l X k W K hK
        gi_wp2
        exact hK
      case hbody =>
        rintro l X k W hl hX hM hKp hlt
        have hM := hM (by omega)
        obtain ⟨v, kv, hO⟩ := hM.out
        obtain ⟨vA, vc, rfl⟩ := hO.form
        rw [pks_len] at kv hO
        have hsw := hM.size
        obtain ⟨o1, o2⟩ := hM.ord
        have hlX := hKp.1.lt
        have hNX := pks_next (tls C Zn) k
        rw [← HLT.out] at hNX
        have HNX := Lib.hid hNX
        have HYL := Lib.hid (show ((pickL (tls C Zn) (idx ls k)).map Int.ofNat).length = ls.length from by
          rw [List.length_map, pickL_len (by rw [idx_len, HLN.out, HTL.out]), HTL.out, HLN.out])
        have hin := idx_inside ls k (by rw [← HN.out]; exact hlt)
        have HEL := Lib.hid (fun j (hj : j < ls.length) => show ∃ (Aj : Option Addr) (nj cj : Nat) (x : Int), Vs[j]? = some (.slice Aj nj cj) ∧ (idx ls k).getD j 0 < nj ∧ ((pickL (tls C Zn) (idx ls k)).map Int.ofNat).getD j 0 = x ∧ ∃ ad, Aj = some ad ∧ (ad.add ((idx ls k).getD j 0)).block < wB.heap.size ∧ wB.cell? (ad.add ((idx ls k).getD j 0)) = some (.int .i64 x) from by
          have hjt : j < (tls C Zn).length := by rw [HTL.out, ← HLN.out]; exact hj
          have hji : j < (idx ls k).length := by rw [idx_len]; exact hj
          have hi := ((inside_iff _ _).1 hin).2 j hj
          have e1 : ls.getD j 0 = (tls C Zn)[j].length := by
            rw [HLT.out, List.getD_eq_getElem?_getD, List.getElem?_map, List.getElem?_eq_getElem hjt]; rfl
          rw [e1] at hi
          have e2 : (tlI C Zn)[j]? = some ((tls C Zn)[j].map Int.ofNat) := by
            unfold tlI
            rw [List.getElem?_map, List.getElem?_eq_getElem hjt]; rfl
          obtain ⟨v, h1, h2, _⟩ := hD.2 j _ e2
          obtain ⟨Aj, cj, rfl, _⟩ := h2.form
          obtain ⟨ad, e3, h4, h5⟩ := h2.rd.zint (j := (idx ls k).getD j 0) (by rw [List.length_map]; exact hi)
          refine ⟨Aj, _, cj, _, h1, by rw [List.length_map]; exact hi, ?_, ad, e3, by rw [addr_block]; exact h4, h5⟩
          rw [getD_ofNat', List.getD_eq_getElem?_getD, pickL_at hjt hji]
          show (((tls C Zn)[j].getD ((idx ls k).getD j 0) 0 : Nat) : Int) = _
          rw [List.getElem_map, List.getD_eq_getElem?_getD, List.getElem?_eq_getElem hi]
          rfl)
        generalize hy : (pickL (tls C Zn) (idx ls k)).map Int.ofNat = y at *
        clear hy hNX hin
        have hkx := hKp.1
        gi_wp2_with fail
        have hb5 := below_alloc W (.cells (ints .i64 (List.replicate ls.length 0)).toArray 3)
        have k5 := Bk.new W 3 (ints .i64 (List.replicate ls.length 0)).toArray
        generalize hw5 : W.alloc (.cells (ints .i64 (List.replicate ls.length 0)).toArray 3) = w5 at *
        clear hw5
        rw [← gmid_zero y] at k5
        gi_loopw [93] (fun i wq => ∃ j : Nat, j ≤ ls.length ∧ i = .int .i64 j ∧ Below W.heap.size W wq ∧ Bk wq W.heap.size 3 (zints (gmid y ls.length j)).toArray) (fun i _ => ls.length - (intOf i).toNat)
        case atStart => exact ⟨0, Nat.zero_le _, rfl, hb5, k5⟩
        case round =>
          clear hb5 k5
          obtain ⟨j, hj, rfl, hbq, k5⟩ := hrel
          have hbB := hM.below.trans (hbq.mono hM.below.size)
          by_cases hlj : j < ls.length
          · obtain ⟨Aj, nj, cj, x, g1, g2, g3, adj, rfl, g4, g5⟩ := HEL.out j hlj
            have hjC : (j : Int) < (C.length : Int) := by rw [← HLN.out]; omega
            have hcl : wr.cell? ⟨lb, j, none⟩ = some (.slice (some adj) nj cj) := by
              have h := (kl.next' hbB).cell j
              rw [lsf_at (by rw [HVL.out, ← HLN.out]; exact hlj), g1] at h
              exact h
            have cxq : wr.cell? ⟨lb + 1, 0, none⟩ = some (.slice (some ⟨lb, 0, none⟩) C.length C.length) := (kx.next' hbB).cell 0
            have hcx := (hkx.next' hbq).cell j
            rw [ints_getD .i64 _ (by rw [idx_len]; exact hlj)] at hcx
            have hcj := (hbB.cell g4).trans g5
            have hc0 := k5.cell j
            rw [show (zints (gmid y ls.length j)).toArray[j]? = some (.int .i64 ((gmid y ls.length j).getD j 0)) from by
              have h := gmid_len HYL.out hj
              simp [zints, List.getD_eq_getElem?_getD, List.getElem?_eq_getElem (show j < (gmid y ls.length j).length by omega)]] at hc0
            have hf0 := k5.frozen j
            have k2 := k5.put j (.int .i64 x)
            rw [zints_set, ← g3, gmid_next HYL.out hlj] at k2
            rw [g3] at k2
            have K2 := Lib.hid k2
            have HB2 := Lib.hid (hbq.setCell (p := ⟨W.heap.size, j, none⟩) (Nat.le_refl _) (.int .i64 x))
            clear k2 k5 hbq hbB g4 g5 g1 g3
            generalize (idx ls k).getD j 0 = q at *
            gi_wp2
            go_roundw
            case rel => exact ⟨j + 1, by omega, by go_num, HB2.out, K2.out⟩
            case measure => simp [intOf]; omega
          · obtain rfl : j = ls.length := by omega
            rw [gmid_all HYL.out] at k5
            have hI5 := IsI.of_bk k5
            rw [HYL.out] at hI5
            have hb6 := below_alloc wr (.cells #[.slice (some ⟨W.heap.size, 0, none⟩) ls.length ls.length] 22)
            have hb56 := hbq.trans (hb6.mono hbq.size)
            have kv6 := kv.next' hb56
            have hO6 := hO.keep hb56
            have hI6 := hI5.next hb6
            have hz6 := hb56.size
            have c6 : (wr.alloc (.cells #[.slice (some ⟨W.heap.size, 0, none⟩) ls.length ls.length] 22)).cell? ⟨wr.heap.size, 0, none⟩ = some (.slice (some ⟨W.heap.size, 0, none⟩) ls.length ls.length) := (Bk.new wr 22 #[Value.slice (some ⟨W.heap.size, 0, none⟩) ls.length ls.length]).cell 0
            have c60 : wr.cell? ⟨wB.heap.size, 0, none⟩ = some (.slice vA k vc) := (kv.next' hbq).cell 0
            have hoff : ∀ Y, some X = some Y → offX (.slice (some ⟨W.heap.size, 0, none⟩) ls.length ls.length) Y ∧ Y < (wr.alloc (.cells #[.slice (some ⟨W.heap.size, 0, none⟩) ls.length ls.length] 22)).heap.size := fun Y e => by
              injection e with e
              subst e
              refine ⟨fun ad n c ev => ?_, by omega⟩
              injection ev with ev _ _
              injection ev with ev
              rw [← ev]
              show W.heap.size ≠ X
              omega
            obtain ⟨_, _, _, _, hav6, _⟩ := id hO6
            gi_wp2_with (gi_at_builtin; refine wpListIn_append_list rfl (.tmp 109) (.tmp 111) rfl (some X) w6.heap.size (.slice vA k vc) (pks (tls C Zn) k) rfl hO6 (by omega) (by rw [pks_len]; omega) ⟨wr.heap.size, 0, none⟩ y (.slice (some ⟨W.heap.size, 0, none⟩) ls.length ls.length) rfl c6 hI6 hoff ?_; intro v8 w8 hO8 hg8 hk8 hb8 hn8; rw [← HNX.out] at hO8; obtain ⟨A1, c1, e8⟩ := hO8.form; rw [pks_len] at e8; subst e8; have k8 := kv6.grown hg8 (fun e => by have := (hb8 _ e.symm).1; omega); have c8 : w8.cell? ⟨wB.heap.size, 0, none⟩ = some (.slice vA k vc) := k8.cell 0; have f8 := k8.frozen 0)
            have hnow : ∀ g, (Value.slice A1 (k + 1) c1).ownBlock = some g → w6.heap.size ≤ g := fun g hg => by
              obtain ⟨_, _, ho, _⟩ := hO8
              exact (row_cells ho hg).choose_spec.2
            have B8 : Below wB.heap.size wB w8 := (hM.below.trans (hb56.mono hM.below.size)).grown hg8 (by have := hM.below.size; omega) (fun r e => by have := (hb8 r e).1; omega)
            have hz8 := hg8.size
            obtain ⟨q1, q2, q3⟩ := hKp
            refine ⟨(KeepsFrom.of_grownBy (grown_of_below hbq none) (fun j e => by cases e)).trans ((KeepsFrom.of_grownBy (grown_of_below hb6 none) (fun j e => by cases e)).trans ((hk8.from _).trans ((KeepsOthers.setCell w8 _ _).from _))), fun hlX2 => ?_, ?_⟩
            · exact ⟨B8.setCell (p := ⟨wB.heap.size, 0, none⟩) (Nat.le_refl _) _, ⟨_, by simpa using k8.put 0 (.slice A1 (k + 1) c1), hO8.put (p := ⟨wB.heap.size, 0, none⟩) (fun e => by have := hnow _ e; simp only at this; omega) c8 (fun k i => by simp) _⟩, by rw [sz_setCell]; omega, hM.ord⟩
            · refine ⟨((q1.next' hb56).grown hg8 (fun e => hav6 X rfl e.symm)).far (by show X ≠ wB.heap.size; omega) _, ?_, ?_⟩
              · exact (World.cell?_setCell_other w8 ⟨wB.heap.size, 0, none⟩ ⟨wB.heap.size + 1, 0, none⟩ _ (fun e => by injection e with e1; omega)).trans ((grown_cell hg8 (p := ⟨wB.heap.size + 1, 0, none⟩) (by show wB.heap.size + 1 < _; omega) (fun e => by have := (hb8 _ e.symm).1; simp only at this; omega)).trans ((hb56.cell (p := ⟨wB.heap.size + 1, 0, none⟩) (by show wB.heap.size + 1 < W.heap.size; omega)).trans q2))
              · exact ((q3.below (hb56.mono (by omega))).grown hg8 (by omega) (fun r e => by have := (hb8 r e).1; omega)).put_out c8 (by simp [ints]) _
      case hdone =>
        rintro D X W hDl hX hM hK
        have hM := hM (by omega)
        obtain ⟨v, kv, hO⟩ := hM.out
        obtain ⟨vA, vc, rfl⟩ := hO.form
        have c0 : W.cell? ⟨wB.heap.size, 0, none⟩ = some (.slice vA _ vc) := kv.cell 0
        rw [pks_len] at c0 kv hO
        go_wp2
        refine ⟨by simp, .inl ⟨_, _, rfl, run_takeDeferred hK, ?_⟩⟩
        have hg8 := grownBy_putObj' W D (.deferred none)
        have hr8 : ∀ r, some D = some r → ∃ o : Obj, W.heap[r]? = some o ∧ o.isCells = false := fun r e => by cases e; exact ⟨_, hK, rfl⟩
        have hO9 := hO.grown hg8 (fun r e => .inr (hr8 r e))
        obtain ⟨o1, o2⟩ := hM.ord
        have B9 := (hB.trans (hM.below.mono hB.size)).grown hg8 (by have := hM.below.size; have := hB.size; omega) (fun r e => by cases e; have := hB.size; omega)
        have hI9 := hO9.is
        generalize W.putObj D (.deferred none) = W9 at *
        refine ⟨.tuple #[.slice vA N vc, .int .i64 0], by simp [results, Tryd.results6, go_sem], ?_⟩
        rw [← HLS.out, ← HN.out]
        exact ⟨B9, _, rfl, hI9⟩
end Go.Proofs.YtgnffedncjjkfaaDoor

