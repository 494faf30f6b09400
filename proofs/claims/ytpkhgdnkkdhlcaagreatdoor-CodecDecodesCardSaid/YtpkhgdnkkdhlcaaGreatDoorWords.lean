/-
  Words for memory, of no program: a slice that reads as a list of cells, nil included; a block that is known whole.
-/
import Derived.Below
import Derived.Lib.Hide
import Derived.Laws.OwnMore
import Derived.Deep.AppendLies
import Derived.Deep.Draws
import Derived.Laws.Rows
import Derived.Laws.MakeOwn
import Derived.Maps.AppendAt
import Derived.OwnWalk
namespace Go.Proofs.YtpkhgdnkkdhlcaaGreatDoor
open Go.RowKit

theorem addr_block (a : Addr) (n : Nat) : (a.add n).block = a.block := by unfold Addr.add; split <;> rfl
theorem addr_add (a : Addr) (i j : Nat) : (a.add i).add j = a.add (i + j) := by
  unfold Addr.add
  by_cases hi : i = 0 <;> by_cases hj : j = 0 <;> simp [hi, hj, Nat.add_assoc]
theorem addr_zero (a : Addr) : a.add 0 = a := by unfold Addr.add; rfl
theorem addr_mk (b o k : Nat) : (⟨b, o, none⟩ : Addr).add k = ⟨b, o + k, none⟩ := by
  unfold Addr.add; split
  · rename_i h; subst h; rfl
  · rfl

/-- From the address A on the cells xs lie in memory, below block B. -/
def Rd (w : World) (B : Nat) (A : Option Addr) (xs : List Value) : Prop :=
  xs ≠ [] → ∃ ad, A = some ad ∧ ad.block < B ∧ ∀ j u, xs[j]? = some u → w.cell? (ad.add j) = some u

section
variable {w w' : World} {B B' : Nat} {A : Option Addr} {xs : List Value}
theorem Rd.nil : Rd w B A [] := fun h => absurd rfl h
theorem Rd.at_ (h : Rd w B A xs) {k : Nat} (hk : k < xs.length) : ∃ ad, A = some ad ∧ ad.block < B ∧ w.cell? (ad.add k) = some xs[k] := by
  obtain ⟨ad, e, hb, hc⟩ := h (by intro e; rw [e] at hk; simp at hk)
  exact ⟨ad, e, hb, hc k _ (List.getElem?_eq_getElem hk)⟩
theorem Rd.keep (h : Rd w B A xs) (hk : ∀ p : Addr, p.block < B → w'.cell? p = w.cell? p) : Rd w' B A xs := fun hn => by
  obtain ⟨ad, e, hb, hc⟩ := h hn
  exact ⟨ad, e, hb, fun j u hu => (hk _ (by rw [addr_block]; exact hb)).trans (hc j u hu)⟩
theorem Rd.more (h : Rd w B A xs) (hB : B ≤ B') : Rd w B' A xs := fun hn => by
  obtain ⟨ad, e, hb, hc⟩ := h hn
  exact ⟨ad, e, Nat.lt_of_lt_of_le hb hB, hc⟩
theorem Rd.below (h : Rd w B A xs) (hb : Below B w w') : Rd w' B A xs := h.keep fun _ hp => hb.cell hp
theorem Rd.drew (h : Rd w B A xs) : Rd w.drew B A xs := h
theorem Rd.drewN (h : Rd w B A xs) (k : Nat) : Rd (w.drewN k) B A xs := h
theorem Rd.alloc (h : Rd w B A xs) (hB : B ≤ w.heap.size) (o : Obj) : Rd (w.alloc o) B A xs := h.keep fun p hp => World.cell?_alloc_lt w o p (by omega)
theorem Rd.setCell (h : Rd w B A xs) {p : Addr} (hB : B ≤ p.block) (u : Value) : Rd (w.setCell p u) B A xs :=
  h.keep fun q hq => World.cell?_setCell_other w p q u (fun e => by subst e; omega)
theorem Rd.grown (h : Rd w B A xs) {row : Option Nat} (hg : w.grownBy w' row) (hB : B ≤ w.heap.size) (hr : ∀ g, row = some g → B ≤ g) : Rd w' B A xs :=
  h.keep fun p hp => World.cell?_of_block (hg.block p.block (by omega) (fun e => by have := hr _ e.symm; omega))
theorem Rd.take (h : Rd w B A xs) (k : Nat) : Rd w B A (xs.take k) := fun hn => by
  obtain ⟨ad, e, hb, hc⟩ := h (by intro e; rw [e] at hn; simp at hn)
  exact ⟨ad, e, hb, fun j u hu => hc j u (by
    rw [List.getElem?_take] at hu
    split at hu
    · exact hu
    · cases hu)⟩
/-- 's[k:]': at the end of the capacity the address stays. -/
theorem Rd.cut (h : Rd w B A xs) {k cap : Nat} (hc : xs.length ≤ cap) : Rd w B (if cap = k then A else A.map (·.add k)) (xs.drop k) := fun hn => by
  have hk : k < xs.length := by
    rcases Nat.lt_or_ge k xs.length with h | h
    · exact h
    · exact absurd (List.drop_eq_nil_of_le h) hn
  obtain ⟨ad, rfl, hb, hcell⟩ := h (by intro e; rw [e] at hk; simp at hk)
  rw [if_neg (by omega)]
  refine ⟨ad.add k, rfl, by rw [addr_block]; exact hb, fun j u hu => ?_⟩
  rw [addr_add]
  exact hcell _ u (by rw [← hu, List.getElem?_drop])
theorem Rd.of_own {base : Nat} {e : TypeId} {size n c : Nat} (h : w.ownsRow base e size (.slice A n c) n xs) : Rd w w.heap.size A xs := by
  intro hn
  rcases h.2 with ⟨hv, hz⟩ | ⟨g, cap, cur, hv, hbg, hg, _⟩
  · subst hz
    have := h.1
    simp at this
    exact absurd this hn
  · injection hv with e1 e2 e3
    subst e1
    exact ⟨_, rfl, (Array.getElem?_eq_some_iff.1 hg).1, h.cells (g := g) rfl⟩
end

/-- Block g is just the cells cs of element type t, none of them frozen. -/
def Bk (w : World) (g : Nat) (t : TypeId) (cs : Array Value) : Prop := w.heap[g]? = some (.cells cs t (0, 0))
section
variable {w w' : World} {g : Nat} {t : TypeId} {cs : Array Value}
theorem Bk.lt (h : Bk w g t cs) : g < w.heap.size := (Array.getElem?_eq_some_iff.1 h).1
theorem Bk.cell (h : Bk w g t cs) (i : Nat) : w.cell? ⟨g, i, none⟩ = cs[i]? := cell_of_row w g i cs t (0, 0) h
theorem Bk.frozen (h : Bk w g t cs) (i : Nat) : w.frozen? ⟨g, i, none⟩ = false := by
  unfold Bk at h
  simp [World.frozen?, h]
theorem Bk.new (w : World) (t : TypeId) (cs : Array Value) : Bk (w.alloc (.cells cs t)) w.heap.size t cs := heap_alloc_new w _
theorem Bk.drew (h : Bk w g t cs) : Bk w.drew g t cs := h
theorem Bk.drewN (h : Bk w g t cs) (n : Nat) : Bk (w.drewN n) g t cs := h
theorem Bk.alloc (h : Bk w g t cs) (o : Obj) : Bk (w.alloc o) g t cs := (Below.heap_alloc w o g h.lt).trans h
theorem Bk.put (h : Bk w g t cs) (i : Nat) (u : Value) : Bk (w.setCell ⟨g, i, none⟩ u) g t (cs.setIfInBounds i u) := by
  unfold Bk at h ⊢
  simp [World.setCell, Array.getElem?_modify, h]
theorem Bk.far (h : Bk w g t cs) {p : Addr} (hp : g ≠ p.block) (u : Value) : Bk (w.setCell p u) g t cs := (Below.heap_setCell w p u g hp).trans h
theorem Bk.below {B : Nat} (h : Bk w g t cs) (hb : Below B w w') (hg : g < B) : Bk w' g t cs := (hb.block g hg).trans h
theorem Bk.grown {row : Option Nat} (h : Bk w g t cs) (hb : w.grownBy w' row) (hg : some g ≠ row) : Bk w' g t cs := (hb.block g h.lt hg).trans h
/-- Its cells, from place 0 on. -/
theorem Bk.rd (h : Bk w g t cs) : Rd w w.heap.size (some ⟨g, 0, none⟩) cs.toList := fun _ => ⟨_, rfl, h.lt, fun j u hu => by
  rw [addr_mk, Nat.zero_add, h.cell]; simpa using hu⟩
theorem Bk.own (h : Bk w g t cs) {base size n cap : Nat} (hb : base ≤ g) (hn : n ≤ cap) (hm : cap ≤ maxLen) (hs : cs.size = cap * size) :
    w.ownsRow base t size (.slice (some ⟨g, 0, none⟩) n cap) n (cs.toList.take (n * size)) :=
  ⟨by rw [List.length_take, Array.length_toList, hs, Nat.min_eq_left (Nat.mul_le_mul_right _ hn)], .inr ⟨g, cap, cs, rfl, hb, h, hn, hm, hs, rfl⟩⟩
end
theorem below_cells {W w1 : World} (hb : Below W.heap.size W w1) : (∀ b o, b < W.heap.size → w1.cell? ⟨b, o, none⟩ = W.cell? ⟨b, o, none⟩) ∧ (∀ b o, b < W.heap.size → w1.frozen? ⟨b, o, none⟩ = W.frozen? ⟨b, o, none⟩) :=
  ⟨fun b o h => hb.cell (p := ⟨b, o, none⟩) h, fun b o h => hb.frozen (p := ⟨b, o, none⟩) h⟩
theorem below_drewN {B : Nat} {a w : World} (h : Below B a w) (n : Nat) : Below B a (w.drewN n) := ⟨h.os, h.tape, h.output, h.size, h.block⟩
theorem ret_int {k : IntKind} {a b : Int} (h : a = b) : Ending.returned (.int k a) = .returned (.int k b) := by rw [h]
/-- Numbers as cells. -/
def ints (k : IntKind) (l : List Nat) : List Value := l.map fun (x : Nat) => Value.int k (x : Int)
theorem ints_length (k : IntKind) (l : List Nat) : (ints k l).length = l.length := List.length_map _
theorem ints_get (k : IntKind) (l : List Nat) {j : Nat} (h : j < l.length) : (ints k l)[j]'(by rw [ints_length]; exact h) = .int k (l[j] : Int) := by simp [ints]
theorem ints_append (k : IntKind) (l m : List Nat) : ints k (l ++ m) = ints k l ++ ints k m := by simp [ints]
theorem ints_take (k : IntKind) (l : List Nat) (n : Nat) : ints k (l.take n) = (ints k l).take n := by simp [ints, List.map_take]
theorem ints_drop (k : IntKind) (l : List Nat) (n : Nat) : ints k (l.drop n) = (ints k l).drop n := by simp [ints, List.map_drop]
theorem ints_one (k : IntKind) (l : List Nat) : ∀ u ∈ ints k l, u.oneCell' = true := by
  intro u hu
  simp [ints] at hu
  obtain ⟨x, _, rfl⟩ := hu
  rfl
/-- A number's cell, read at its place. -/
theorem Rd.int {w : World} {B : Nat} {A : Option Addr} {k : IntKind} {l : List Nat} (h : Rd w B A (ints k l)) {j : Nat} (hj : j < l.length) : ∃ ad, A = some ad ∧ ad.block < B ∧ w.cell? (ad.add j) = some (.int k ((l.getD j 0 : Nat) : Int)) := by
  obtain ⟨ad, e, hb, hc⟩ := h.at_ (k := j) (by rw [ints_length]; exact hj)
  refine ⟨ad, e, hb, ?_⟩
  rw [hc, ints_get k l hj, List.getD_eq_getElem?_getD, List.getElem?_eq_getElem hj]; rfl
theorem ints_set (k : IntKind) (l : List Nat) (i x : Nat) : (ints k l).toArray.setIfInBounds i (.int k (x : Int)) = (ints k (l.set i x)).toArray := by
  simp [ints, List.map_set]
theorem ints_getD (k : IntKind) (l : List Nat) {i : Nat} (h : i < l.length) : (ints k l).toArray[i]? = some (.int k ((l.getD i 0 : Nat) : Int)) := by
  simp [ints, List.getD_eq_getElem?_getD, List.getElem?_eq_getElem h]
theorem Rd.of_new (w : World) (cs : List Value) (t : TypeId) : Rd (w.alloc (.cells cs.toArray t)) (w.heap.size + 1) (some ⟨w.heap.size, 0, none⟩) cs := by
  have h := (Bk.new w t cs.toArray).rd
  simpa using h

section
variable {P : Program} (w : World)
/-- append of a nil slice. -/
theorem append_none (base : Nat) (t ty e : TypeId) (i : TypeInfo) (size : Nat) (ht : P.underlying t = some (.slice e)) (hi : P.info? e = some i)
    (v : Value) (n : Nat) (xs : List Value) (hown : w.ownsRow base e size v n xs) (c : Nat) : (Builtin.append_ #[t, t] ty #[v, .slice none 0 c]).run P w = .ok v w := by
  rcases hown.2 with ⟨rfl, rfl⟩ | ⟨g, cap, cur, rfl, _, _, hnc, _⟩
  · simp [Builtin.append_, run_underlying ht, sizeOf, typeInfo, hi, Builtin.lenOf, Builtin.firstCells]
  · simp [Builtin.append_, run_underlying ht, sizeOf, typeInfo, hi, Builtin.lenOf, Builtin.firstCells, hnc, storeCells]

/-- append to a row of the call's own, whatever the source: nil, empty or not. -/
theorem wpL_append {ops : Array Oper} {rest : List Oper} {o : Oper} {a : Act} {Q : Exit → Act → World → Prop} (hgd : o.guard = none) (s x : Operand) (t : TypeId)
    (ho : o.op = .call { callee := .builtin .append, args := #[s, x], argTypes := #[t, t] })
    (base : Nat) (e : TypeId) (i : TypeInfo) (z : Value) (size bytes : Nat) (ht : P.underlying t = some (.slice e)) (hi : P.info? e = some i) (hz : i.zero = some z)
    (hsize : i.size = size) (hby : i.bytes = bytes) (hzs : z.cells.size = size) (hsz : 0 < size)
    (v : Value) (n : Nat) (xs : List Value) (hs : a.eval s = v) (hown : w.ownsRow base e size v n xs)
    (A : Option Addr) (m c : Nat) (news : List Value) (hx : a.eval x = .slice A m c) (hl : news.length = m * size) {Br : Nat} (hr : Rd w Br A news) (h1 : ∀ u ∈ news, u.oneCell' = true)
    (h63 : n + m ≤ maxLen) (hbytes : (n + m) * bytes ≤ 140737488355328) (hbase : base ≤ w.heap.size)
    (h : ∀ v' w', w'.ownsRow base e size v' (n + m) (xs ++ news) → w.grownBy w' v.ownBlock → (v'.ownBlock = v.ownBlock ∨ v'.ownBlock = some w.heap.size) → wpList P ops Q rest (a.put o.dst v') w') :
    wpList P ops Q (o :: rest) a w := by
  rcases A with _ | ad
  · have hn : news = [] := by
      rcases Classical.em (news = []) with h0 | h0
      · exact h0
      · obtain ⟨_, h2, _⟩ := hr h0
        cases h2
    subst hn
    have hm : m = 0 := by
      rcases Nat.eq_zero_or_pos m with h0 | h0
      · exact h0
      · have := Nat.mul_pos h0 hsz; simp at hl; omega
    subst hm
    refine wpList_plain hgd fun K hK => ?_
    unfold Oper.wp execOp
    simp only [ho, resolve, invoke, builtin, Sem.run_bind, Sem.run_pure, Result.andThen_ok, List.map_toArray, List.map_cons, List.map_nil, hs, hx, append_none w base t o.type e i size ht hi v n xs hown c]
    exact hK _ _ (h v w (by simpa using hown) (World.grownBy.refl w _) (.inl rfl))
  · have hcells : ∀ j u, news[j]? = some u → w.cell? (ad.add j) = some u := by
      intro j u hu
      obtain ⟨ad', h2, _, hc⟩ := hr (by rintro rfl; simp at hu)
      injection h2 with h2
      subst h2
      exact hc j u hu
    exact wpList_append_own_at (P := P) w hgd s x t ho base e i z size bytes ht hi hz hsize hby hzs hsz v n xs hs hown ad m c news hx hl hcells h1 h63 hbytes hbase fun v' w' h2 h3 _ h5 => h v' w' h2 h3 h5
end
/-- Below behind an append to a row of the call's own. -/
theorem below_app {B : Nat} {a w w' : World} {v : Value} {base : Nat} {e : TypeId} {size n : Nat} {xs : List Value} (h : Below B a w) (hg : w.grownBy w' v.ownBlock) (hB : B ≤ w.heap.size) (hown : w.ownsRow base e size v n xs) (hb : B ≤ base) : Below B a w' :=
  h.grown hg hB fun k hk => Nat.le_trans hb (hown.lt k hk).1

/-- 'make' of numbers. -/
theorem make_ints {P : Program} (t e : TypeId) (i : TypeInfo) (k : IntKind) (ht : P.underlying t = some (.slice e)) (hi : P.info? e = some i) (hz : i.zero = some (.int k 0)) (hs : i.size = 1) (hb : i.bytes ≤ 8)
    (kl kc : IntKind) (n : Nat) (x : Int) (hx : x = (n : Int)) (hn : n ≤ 4000000000000) (w : World) :
    (Instr.makeSlice t (.int kl x) (.int kc x)).run P w = .ok (.slice (some ⟨w.heap.size, 0, none⟩) n n) (w.alloc (.cells (ints k (List.replicate n 0)).toArray e)) := by
  subst hx
  have h1 : (i.bytes : Int) * (n : Int) ≤ 281474976710656 := by
    have : i.bytes * n ≤ 8 * n := Nat.mul_le_mul_right _ hb
    have : ((i.bytes * n : Nat) : Int) ≤ ((8 * n : Nat) : Int) := by omega
    rw [Int.natCast_mul] at this
    omega
  have hr := run_make (P := P) w t e i (.int k 0) ht hi hz kl kc n n (by omega) (by omega) h1 (by omega)
  rw [hr, hs]
  have e1 : madeCells (Value.cells (.int k 0)) ((n : Int).toNat * 1) = (ints k (List.replicate n 0)).toArray := by
    apply Array.ext'
    have : Value.cells (.int k 0) = #[.int k 0] := rfl
    rw [this, toList_madeCells_one]
    simp [ints]
  rw [e1]
  simp
end Go.Proofs.YtpkhgdnkkdhlcaaGreatDoor

