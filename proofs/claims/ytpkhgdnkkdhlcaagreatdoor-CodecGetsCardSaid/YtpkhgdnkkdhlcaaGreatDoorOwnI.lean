/-
  Words: appends that keep the numbers in memory; blocks side by side.
-/
import Derived.Test.YtpkhgdnkkdhlcaaGreatDoorFracB
namespace Go.Proofs.YtpkhgdnkkdhlcaaGreatDoor
open Go.RowKit Ar

/-- A value that is no number. -/
def noInt (u : Value) : Prop := ∀ k i, u ≠ .int k i
/-- A block without numbers. -/
def NoIntB (w : World) (g : Option Nat) : Prop := ∀ b, g = some b → ∀ j k i, w.cell? ⟨b, j, none⟩ ≠ some (.int k i)
theorem zeroCells_no {z : Array Value} (hz : ∀ u ∈ z.toList, noInt u) (hs : 0 < z.size) (n : Nat) : ∀ u ∈ (Builtin.zeroCells z n).toList, noInt u := fun u hu => by
  unfold Builtin.zeroCells at hu
  simp only [Array.toList_map, List.mem_map] at hu
  obtain ⟨i, _, rfl⟩ := hu
  have hi : i % z.size < z.size := Nat.mod_lt _ hs
  rw [getElem!_pos z (i % z.size) hi]
  exact hz _ (by simp)
theorem alloc_no {w : World} {cs : Array Value} {e : TypeId} (h : ∀ u ∈ cs.toList, noInt u) : NoIntB (w.alloc (.cells cs e)) (some w.heap.size) := fun b hb j k i hc => by
  injection hb with hb
  subst hb
  rw [World.cell?] at hc
  simp only [heap_alloc_new] at hc
  have hm : Value.int k i ∈ cs.toList := by
    have := List.mem_of_getElem? (l := cs.toList) (i := j) (by simpa using hc)
    exact this
  exact h _ hm k i rfl
/-- append to a row of the call's own, without numbers in it. -/
theorem append_ni {P : Program} (w : World) (base : Nat) (t ty e : TypeId) (i : TypeInfo) (z : Value) (size bytes : Nat) (ht : P.underlying t = some (.slice e)) (hi : P.info? e = some i) (hz : i.zero = some z)
    (hsize : i.size = size) (hby : i.bytes = bytes) (hzs : z.cells.size = size) (hsz : 0 < size)
    (v : Value) (n : Nat) (xs : List Value) (hown : w.ownsRow base e size v n xs) (hni : NoIntB w v.ownBlock) (hzn : ∀ u ∈ z.cells.toList, noInt u)
    (a : Addr) (m c : Nat) (news : List Value) (hl : news.length = m * size) (hnews : ∀ j u, news[j]? = some u → w.cell? (a.add j) = some u) (h1 : ∀ u ∈ news, u.oneCell' = true) (hnn : ∀ u ∈ news, noInt u) (hm : 0 < m)
    (h63 : n + m ≤ maxLen) (hbytes : (n + m) * bytes ≤ 140737488355328) (hbase : base ≤ w.heap.size) :
    ∃ v' w', (Builtin.append_ #[t, t] ty #[v, .slice (some a) m c]).run P w = .ok v' w' ∧ w'.ownsRow base e size v' (n + m) (xs ++ news) ∧ w.grownBy w' v.ownBlock ∧ NoIntB w' v'.ownBlock := by
  obtain ⟨v', w', hr, h2, h3, _, _⟩ := run_append_own_at (P := P) w base t ty e i z size bytes ht hi hz hsize hby hzs hsz v n xs hown a m c news hl hnews h1 h63 hbytes hbase
  refine ⟨v', w', hr, h2, h3, ?_⟩
  subst hsize
  subst hby
  have hsmall : n + m ≤ 9223372036854775807 := by simp only [maxLen] at h63; omega
  rcases hown.2 with ⟨rfl, rfl⟩ | ⟨g, cap, cur, rfl, hbg, hg, hnc, hcm, hcs, htake⟩
  · have hr2 := run_append_nil (P := P) w t ty e i z ht hi hz a m c news hl hnews hm (by omega) (by have hb := hbytes; simp only [Nat.zero_add] at hb; omega)
    rw [hr] at hr2
    injection hr2 with e1 e2
    subst e1
    subst e2
    refine alloc_no (w := w.drew) fun u hu => ?_
    simp only [Array.toList_append, List.mem_append] at hu
    rcases hu with hu | hu
    · exact hnn u hu
    · exact zeroCells_no hzn (by omega) _ u hu
  · have hcur : ∀ u ∈ cur.toList, noInt u := fun u hu k j0 hk => by
      obtain ⟨j, hj⟩ := List.getElem?_of_mem hu
      subst hk
      refine hni g rfl j k j0 ?_
      rw [World.cell?]
      simp only [hg]
      simpa using hj
    by_cases hroom : n + m ≤ cap
    · have hfit : n * i.size + news.length ≤ cur.size := by rw [hl, hcs, ← Nat.add_mul]; exact Nat.mul_le_mul_right _ hroom
      have hr2 := run_append_room (P := P) w t ty e i ht hi g n cap cur hg a m c news hl hnews h1 hroom hfit
      rw [hr] at hr2
      injection hr2 with e1 e2
      subst e1
      subst e2
      intro b hb j k j0 hc
      have hbg' : b = g := by simpa [Value.ownBlock] using hb.symm
      subst hbg'
      rw [World.cell?] at hc
      simp only [setRow_heap w b cur _ e _ hg] at hc
      have hm2 := List.mem_of_getElem? (l := List.take (n * i.size) cur.toList ++ news ++ List.drop (n * i.size + news.length) cur.toList) (i := j) (a := Value.int k j0) (by simpa using hc)
      simp only [List.mem_append] at hm2
      rcases hm2 with (hm2 | hm2) | hm2
      · exact hcur _ (List.mem_of_mem_take hm2) k j0 rfl
      · exact hnn _ hm2 k j0 rfl
      · exact hcur _ (List.mem_of_mem_drop hm2) k j0 rfl
    · have holds : ∀ j u, xs[j]? = some u → w.cell? ((⟨g, 0, none⟩ : Addr).add j) = some u := hown.cells (g := g) rfl
      have hr2 := run_append_grow (P := P) w t ty e i z ht hi hz ⟨g, 0, none⟩ n cap xs hown.1 holds a m c news hl hnews (by omega) (by omega) (growslice_fits (by omega) hbytes)
      rw [hr] at hr2
      injection hr2 with e1 e2
      subst e1
      subst e2
      refine alloc_no (w := w.drew) fun u hu => ?_
      simp only [Array.toList_append, List.mem_append] at hu
      rcases hu with (hu | hu) | hu
      · rw [← htake] at hu
        exact hcur u (List.mem_of_mem_take hu)
      · exact hnn u hu
      · exact zeroCells_no hzn (by omega) _ u hu
/-- The same, at an operation of a region that draws its order. -/
theorem step_append {P : Program} {w : World} {o : Oper} {a : Act} {K : Act → World → Prop} {Q : Exit → Act → World → Prop} (s x : Operand) (t : TypeId)
    (ho : o.op = .call { callee := .builtin .append, args := #[s, x], argTypes := #[t, t] })
    (base : Nat) (e : TypeId) (i : TypeInfo) (z : Value) (size bytes : Nat) (ht : P.underlying t = some (.slice e)) (hi : P.info? e = some i) (hz : i.zero = some z)
    (hsize : i.size = size) (hby : i.bytes = bytes) (hzs : z.cells.size = size) (hsz : 0 < size)
    (v : Value) (n : Nat) (xs : List Value) (hs : a.eval s = v) (hown : w.ownsRow base e size v n xs) (hni : NoIntB w v.ownBlock) (hzn : ∀ u ∈ z.cells.toList, noInt u)
    (ad : Addr) (m c : Nat) (news : List Value) (hx : a.eval x = .slice (some ad) m c) (hl : news.length = m * size) (hnews : ∀ j u, news[j]? = some u → w.cell? (ad.add j) = some u) (h1 : ∀ u ∈ news, u.oneCell' = true) (hnn : ∀ u ∈ news, noInt u) (hm : 0 < m)
    (h63 : n + m ≤ maxLen) (hbytes : (n + m) * bytes ≤ 140737488355328) (hbase : base ≤ w.heap.size)
    (h : ∀ v' w', w'.ownsRow base e size v' (n + m) (xs ++ news) → w.grownBy w' v.ownBlock → NoIntB w' v'.ownBlock → K (a.put o.dst v') w') :
    Oper.wp P o a w K Q := by
  obtain ⟨v', w', hr, h2, h3, h5⟩ := append_ni (P := P) w base t o.type e i z size bytes ht hi hz hsize hby hzs hsz v n xs hown hni hzn ad m c news hl hnews h1 hnn hm h63 hbytes hbase
  unfold Oper.wp execOp
  simp only [ho, resolve, invoke, builtin, Sem.run_bind, Sem.run_pure, Result.andThen_ok, List.map_toArray, List.map_cons, List.map_nil, hs, hx, hr]
  exact h v' w' h2 h3 h5

theorem addr_plus (ad : Addr) (m j : Nat) : (⟨(ad.add m).block, (ad.add m).off + (j + 1), none⟩ : Addr) = ad.add (m + (j + 1)) := by
  unfold Addr.add
  rw [if_neg (show m + (j + 1) ≠ 0 by omega)]
  by_cases h : m = 0
  · subst h; simp
  · simp [h, Nat.add_assoc]
/-- Numbers are kept. -/
def Ints (w w' : World) : Prop := ∀ (p : Addr) k i, w.cell? p = some (.int k i) → w'.cell? p = some (.int k i)
theorem ints_grown {w w' : World} {g : Option Nat} (hg : w.grownBy w' g) (hn : NoIntB w g) : Ints w w' := fun p k i hp => by
  have hlt := World.block_lt_of_cell? _ _ hp
  have hsp : p.spot = none := by
    unfold World.cell? at hp
    split at hp
    · split at hp
      · cases hp
      · rename_i h0; simpa using h0
    · cases hp
  have hne : some p.block ≠ g := fun e => hn p.block e.symm p.off k i (by
    have : (⟨p.block, p.off, none⟩ : Addr) = p := by rw [← hsp]
    rw [this]; exact hp)
  unfold World.cell? at hp ⊢
  rw [hg.block p.block hlt hne]
  exact hp
theorem IsN.kept {w w' : World} {B : Nat} {k : IntKind} {v : Value} {n : Nat} (h : IsN w B k v n) (hg : Ints w w') : IsN w' B k v n := by
  obtain ⟨A, c, e, h1, h3⟩ := h
  refine ⟨A, c, e, h1, fun hn => ?_⟩
  obtain ⟨ad, e2, hb, hc⟩ := h3 hn
  refine ⟨ad, e2, hb, fun j u hu => ?_⟩
  have h5 := hc j u hu
  have hm : u ∈ ints k (limbs n) := List.mem_of_getElem? hu
  simp only [ints, List.mem_map] at hm
  obtain ⟨y, _, rfl⟩ := hm
  exact hg _ _ _ h5
theorem IsF.kept {w w' : World} {B : Nat} {v : Value} {q : Rat} (h : IsF w B v q) (hg : Ints w w') : IsF w' B v q := by
  obtain ⟨N', D', e, k1, k2⟩ := h
  exact ⟨N', D', e, k1.kept hg, k2.kept hg⟩
theorem Bk.next' {X Y : World} {g : Nat} {t : TypeId} {cs : Array Value} (h : Bk X g t cs) (hb : Below X.heap.size X Y) : Bk Y g t cs := h.below hb h.lt
theorem Bk.new2 (w : World) (o : Obj) (t : TypeId) (cs : Array Value) : Bk ((w.alloc o).alloc (.cells cs t)) (w.heap.size + 1) t cs := by simpa using Bk.new (w.alloc o) t cs
theorem below_step {W X Y : World} (h : Below W.heap.size W X) (hb : Below X.heap.size X Y) : Below W.heap.size W Y := h.trans (hb.mono h.size)
theorem wpL_append_ni {P : Program} {w : World} {ops : Array Oper} {rest : List Oper} {o : Oper} {a : Act} {Q : Exit → Act → World → Prop} (hgd : o.guard = none) (s x : Operand) (t : TypeId)
    (ho : o.op = .call { callee := .builtin .append, args := #[s, x], argTypes := #[t, t] })
    (base : Nat) (e : TypeId) (i : TypeInfo) (z : Value) (size bytes : Nat) (ht : P.underlying t = some (.slice e)) (hi : P.info? e = some i) (hz : i.zero = some z)
    (hsize : i.size = size) (hby : i.bytes = bytes) (hzs : z.cells.size = size) (hsz : 0 < size)
    (v : Value) (n : Nat) (xs : List Value) (hs : a.eval s = v) (hown : w.ownsRow base e size v n xs) (hni : NoIntB w v.ownBlock) (hzn : ∀ u ∈ z.cells.toList, noInt u)
    (ad : Addr) (m c : Nat) (news : List Value) (hx : a.eval x = .slice (some ad) m c) (hl : news.length = m * size) (hnews : ∀ j u, news[j]? = some u → w.cell? (ad.add j) = some u) (h1 : ∀ u ∈ news, u.oneCell' = true) (hnn : ∀ u ∈ news, noInt u) (hm : 0 < m)
    (h63 : n + m ≤ maxLen) (hbytes : (n + m) * bytes ≤ 140737488355328) (hbase : base ≤ w.heap.size)
    (h : ∀ v' w', w'.ownsRow base e size v' (n + m) (xs ++ news) → w.grownBy w' v.ownBlock → NoIntB w' v'.ownBlock → wpList P ops Q rest (a.put o.dst v') w') :
    wpList P ops Q (o :: rest) a w :=
  wpList_plain hgd fun _ hK => step_append s x t ho base e i z size bytes ht hi hz hsize hby hzs hsz v n xs hs hown hni hzn ad m c news hx hl hnews h1 hnn hm h63 hbytes hbase fun v' w' h2 h3 h4 => hK _ _ (h v' w' h2 h3 h4)
end Go.Proofs.YtpkhgdnkkdhlcaaGreatDoor

