/-
  PROVED: the law ArrayGroups returns true for every input, and each argument reads behind the call as it did before (the tied card, no condition of its own: the package-level variables that its row lists hold at the start what the program's text lays).
-/
import Derived.Test.YtgnffedncjjkfaaGreatDoorFrmT
import Derived.Lib.SmallJoins
import Derived.Test.YtgnffedncjjkfaaGreatDoorArxH
import Derived.Test.YtgnffedncjjkfaaGreatDoorAlgX
import Derived.Test.YtgnffedncjjkfaaGreatDoorArxQ
import Derived.Test.YtgnffedncjjkfaaGreatDoorSlab
import Derived.Test.YtgnffedncjjkfaaGreatDoorStpA
namespace Go.Proofs.YtgnffedncjjkfaaGreatDoor
open Go.RowKit Ix Ar

theorem Tryz.ints_info : (Tryz.prog.info? 22).map (fun i => (i.zero, i.size, i.bytes)) = some (some (.slice none 0 0), 1, 24) := by kernel_rfl
/-- Lists of numbers. -/
def IsG (w : World) (B : Nat) (v : Value) (L : List (List Int)) : Prop :=
  ∃ A c S, v = .slice A L.length c ∧ L.length ≤ c ∧ S.length = L.length ∧ Rd w B A S ∧ ∀ (i : Nat) (x : List Int), L[i]? = some x → ∃ u, S[i]? = some u ∧ IsI w B u x
theorem IsG.more {w : World} {B B' : Nat} {v : Value} {L : List (List Int)} (h : IsG w B v L) (hB : B ≤ B') : IsG w B' v L := by
  obtain ⟨A, c, S, e, h1, h2, h3, h4⟩ := h
  exact ⟨A, c, S, e, h1, h2, h3.more hB, fun i x hx => by obtain ⟨u, k1, k2⟩ := h4 i x hx; exact ⟨u, k1, k2.more hB⟩⟩
theorem IsG.below {w w' : World} {B : Nat} {v : Value} {L : List (List Int)} (h : IsG w B v L) (hb : Below B w w') : IsG w' B v L := by
  obtain ⟨A, c, S, e, h1, h2, h3, h4⟩ := h
  exact ⟨A, c, S, e, h1, h2, h3.below hb, fun i x hx => by obtain ⟨u, k1, k2⟩ := h4 i x hx; exact ⟨u, k1, k2.below hb⟩⟩
theorem IsG.next {w w' : World} {v : Value} {L : List (List Int)} (h : IsG w w.heap.size v L) (hb : Below w.heap.size w w') : IsG w' w'.heap.size v L := (h.below hb).more hb.size
theorem IsG.form {w : World} {B : Nat} {v : Value} {L : List (List Int)} (h : IsG w B v L) : ∃ A c, v = .slice A L.length c := by
  obtain ⟨A, c, S, e, _⟩ := h
  exact ⟨A, c, e⟩
theorem IsG.nil (w : World) (B : Nat) : IsG w B (.slice none 0 0) [] := ⟨none, 0, [], rfl, Nat.le_refl _, rfl, (fun h => absurd rfl h), fun i x h => by simp at h⟩
/-- What lists give a walk at one place. -/
theorem IsG.at {w : World} {B : Nat} {A : Option Addr} {n c : Nat} {L : List (List Int)} (h : IsG w B (.slice A n c) L) {i : Nat} {x : List Int} (hx : L[i]? = some x) :
    ∃ ad A2 c2, A = some ad ∧ ad.block < B ∧ w.cell? (ad.add i) = some (.slice A2 x.length c2) ∧ IsI w B (.slice A2 x.length c2) x := by
  obtain ⟨A', c', S, e, _, _, hr, h4⟩ := h
  injection e with e _ _
  subst e
  obtain ⟨u, hu, hI⟩ := h4 i x hx
  obtain ⟨A2, c2, rfl, hc⟩ := hI.form
  have hi : i < S.length := (List.getElem?_eq_some_iff.1 hu).1
  obtain ⟨ad, e1, e2, e3⟩ := hr.at_ (k := i) hi
  refine ⟨ad, A2, c2, e1, e2, ?_, hI⟩
  rw [e3, ← List.getElem?_eq_getElem hi]
  exact hu
theorem IsI.kept {w w' : World} {B : Nat} {v : Value} {l : List Int} (h : IsI w B v l) (hg : Ints w w') : IsI w' B v l := by
  obtain ⟨A, c, e, h1, h3⟩ := h
  refine ⟨A, c, e, h1, fun hn => ?_⟩
  obtain ⟨ad, e2, hb, hc⟩ := h3 hn
  refine ⟨ad, e2, hb, fun j u hu => ?_⟩
  have h5 := hc j u hu
  have hm : u ∈ zints l := List.mem_of_getElem? hu
  simp only [zints, List.mem_map] at hm
  obtain ⟨y, _, rfl⟩ := hm
  exact hg _ _ _ h5
/-- A list that does not lie in block X. -/
def offX (u : Value) (X : Nat) : Prop := ∀ ad n c, u = .slice (some ad) n c → ad.block ≠ X
/-- Lists under way; none of them, nor the row of them, lies in the block av. -/
def OwnG (av : Option Nat) (w : World) (base : Nat) (v : Value) (L : List (List Int)) : Prop :=
  ∃ S : List Value, S.length = L.length ∧ w.ownsRow base 22 1 v L.length S ∧ NoIntB w v.ownBlock ∧ (∀ X, av = some X → v.ownBlock ≠ some X) ∧ ∀ (i : Nat) (x : List Int), L[i]? = some x → ∃ u, S[i]? = some u ∧ IsI w w.heap.size u x ∧ ∀ X, av = some X → offX u X
theorem OwnG.nil (av : Option Nat) (w : World) (base : Nat) : OwnG av w base (.slice none 0 0) [] := ⟨[], rfl, World.ownsRow_nil _ _ _ _, fun b hb => by simp [Value.ownBlock] at hb, fun X _ => by simp [Value.ownBlock], fun i p h => by simp at h⟩
theorem OwnG.form {av : Option Nat} {w : World} {base : Nat} {v : Value} {l : List (List Int)} (h : OwnG av w base v l) : ∃ A c, v = .slice A l.length c := by
  obtain ⟨S, _, hown, _⟩ := h
  rcases hown.2 with ⟨rfl, e⟩ | ⟨g, cap, cur, rfl, _⟩
  · exact ⟨none, 0, by rw [e]⟩
  · exact ⟨_, _, rfl⟩
theorem OwnG.is {av : Option Nat} {w : World} {base : Nat} {v : Value} {l : List (List Int)} (h : OwnG av w base v l) : IsG w w.heap.size v l := by
  obtain ⟨S, h1, hown, _, _, h2⟩ := h
  have hrd := hown.2
  obtain ⟨A, c, e, hc⟩ : ∃ A c, v = .slice A l.length c ∧ l.length ≤ c := by
    rcases hrd with ⟨rfl, e⟩ | ⟨g, cap, cur, rfl, _, _, hnc, _⟩
    · exact ⟨none, 0, by rw [e], by omega⟩
    · exact ⟨_, _, rfl, hnc⟩
  subst e
  exact ⟨A, c, S, rfl, hc, h1, Rd.of_own hown, fun i x hx => by obtain ⟨u, k1, k2, _⟩ := h2 i x hx; exact ⟨u, k1, k2⟩⟩
theorem row_cells {w : World} {base : Nat} {t : TypeId} {v : Value} {n : Nat} {S : List Value} (h : w.ownsRow base t 1 v n S) {g : Nat} (hg : v.ownBlock = some g) : ∃ cur, w.heap[g]? = some (.cells cur t) ∧ base ≤ g := by
  rcases h.2 with ⟨rfl, _⟩ | ⟨g', cap, cur, rfl, hb, hh, _⟩
  · simp [Value.ownBlock] at hg
  · have : g' = g := by simpa [Value.ownBlock] using hg
    subst this
    exact ⟨cur, hh, hb⟩
theorem keeps_row {w w' : World} {base : Nat} {t : TypeId} {v : Value} {n : Nat} {S : List Value} (h : w.ownsRow base t 1 v n S) (hg : w.grownBy w' v.ownBlock) : KeepsOthers w w' :=
  ⟨hg.size, fun k o hk ho => (hg.block k (Array.getElem?_eq_some_iff.1 hk).1 (fun e => by
    obtain ⟨cur, h1, _⟩ := row_cells h e.symm
    rw [h1] at hk; cases hk; cases ho)).trans hk⟩
/-- Memory grows, not in the row nor in the lists. -/
theorem OwnG.grown {av : Option Nat} {w w' : World} {base : Nat} {v : Value} {l : List (List Int)} (h : OwnG av w base v l) {row : Option Nat} (hg : w.grownBy w' row) (hr : ∀ r, row = some r → av = some r ∨ ∃ o : Obj, w.heap[r]? = some o ∧ o.isCells = false) : OwnG av w' base v l := by
  obtain ⟨S, h1, hown, hni, hav, h2⟩ := h
  have far : ∀ g, v.ownBlock = some g → some g ≠ row := fun g hgv e => by
    rcases hr g e.symm with h3 | ⟨o, h3, h4⟩
    · exact hav g h3 hgv
    · obtain ⟨cur, h5, _⟩ := row_cells hown hgv
      rw [h5] at h3; cases h3; cases h4
  refine ⟨S, h1, hown.kept hg ?_, fun b hbk j k i hc => ?_, hav, fun i p hp => ?_⟩
  · cases e : v.ownBlock with
    | none => exact .inl rfl
    | some g => exact .inr (far g e)
  · obtain ⟨cur, h5, _⟩ := row_cells hown hbk
    refine hni b hbk j k i ?_
    have h6 := hg.block b (Array.getElem?_eq_some_iff.1 h5).1 (far b hbk)
    rw [World.cell?] at hc ⊢
    simp only at hc ⊢
    rw [h6] at hc
    exact hc
  · obtain ⟨s, k1, k2, k3⟩ := h2 i p hp
    refine ⟨s, k1, ?_, k3⟩
    obtain ⟨A, c, e, m1, m2⟩ := k2
    refine ⟨A, c, e, m1, fun hn => ?_⟩
    obtain ⟨ad, e2, hb, hc⟩ := m2 hn
    refine ⟨ad, e2, Nat.lt_of_lt_of_le hb hg.size, fun j u hu => ?_⟩
    by_cases hx : some ad.block = row
    · rcases hr ad.block hx.symm with h3 | ⟨o, h3, h4⟩
      · exact absurd rfl (k3 _ h3 ad _ _ (by rw [e, e2]))
      · exact cell_kept (hc j u hu) hg (fun r er => by rw [← hx] at er; cases er; exact ⟨o, h3, h4⟩)
    · have h7 := hc j u hu
      unfold World.cell? at h7 ⊢
      rw [hg.block _ (by rw [addr_block]; exact hb) (by rw [addr_block]; exact hx)]
      exact h7
theorem OwnG.keep {av : Option Nat} {w w' : World} {base : Nat} {v : Value} {l : List (List Int)} (h : OwnG av w base v l) (hb : Below w.heap.size w w') : OwnG av w' base v l := h.grown (grown_of_below hb none) (fun r e => by cases e)
theorem OwnG.drew {av : Option Nat} {w : World} {base : Nat} {v : Value} {l : List (List Int)} (h : OwnG av w base v l) : OwnG av w.drew base v l := h.keep (Below.refl _ w).drew
/-- One more list. -/
theorem OwnG.add {av : Option Nat} {w w' : World} {base : Nat} {v v' u : Value} {L : List (List Int)} {x : List Int} {S : List Value} (h1 : S.length = L.length) (hni : NoIntB w v.ownBlock) (hav : ∀ X, av = some X → v.ownBlock ≠ some X) (h2 : ∀ (i : Nat) (x : List Int), L[i]? = some x → ∃ u, S[i]? = some u ∧ IsI w w.heap.size u x ∧ ∀ X, av = some X → offX u X)
    (hs : IsI w w.heap.size u x) (hu : ∀ X, av = some X → offX u X ∧ X < w.heap.size) (hown : w'.ownsRow base 22 1 v' (L.length + 1) (S ++ [u])) (hg : w.grownBy w' v.ownBlock) (hn' : NoIntB w' v'.ownBlock) (hb' : v'.ownBlock = v.ownBlock ∨ v'.ownBlock = some w.heap.size) : OwnG av w' base v' (L ++ [x]) := by
  have hI := ints_grown hg hni
  refine ⟨S ++ [u], by simp [h1], ?_, hn', fun X hX => ?_, fun i q hq => ?_⟩
  · rw [List.length_append, List.length_singleton]
    exact hown
  · rcases hb' with e | e
    · rw [e]; exact hav X hX
    · rw [e]; intro e2; injection e2 with e2; have := (hu X hX).2; omega
  · rcases Nat.lt_or_ge i L.length with hi | hi
    · rw [List.getElem?_append_left hi] at hq
      obtain ⟨s', k1, k2, k3⟩ := h2 i q hq
      exact ⟨s', by rw [List.getElem?_append_left (by omega)]; exact k1, (k2.kept hI).more hg.size, k3⟩
    · rw [List.getElem?_append_right hi] at hq
      have hi0 : i - L.length = 0 := by
        rcases Nat.eq_zero_or_pos (i - L.length) with h0 | h0
        · exact h0
        · rw [List.getElem?_eq_none (by simp; omega)] at hq; cases hq
      rw [hi0] at hq
      simp at hq
      subst hq
      exact ⟨u, by rw [List.getElem?_append_right (by omega), h1, hi0]; rfl, (hs.kept hI).more hg.size, fun X hX => (hu X hX).1⟩
theorem ints_setCell {w : World} {p : Addr} {old : Value} (hc : w.cell? p = some old) (hn : noInt old) (u : Value) : Ints w (w.setCell p u) := fun q k i hq => by
  rw [World.cell?_setCell_other w p q u (fun e => by subst e; rw [hc] at hq; injection hq with hq; exact hn k i hq)]
  exact hq
theorem grown_cell {w w' : World} {row : Option Nat} {p : Addr} (hg : w.grownBy w' row) (hlt : p.block < w.heap.size) (hne : some p.block ≠ row) : w'.cell? p = w.cell? p := by
  unfold World.cell?
  rw [hg.block _ hlt hne]
/-- A store elsewhere, over what is no number. -/
theorem OwnG.put {av : Option Nat} {w : World} {base : Nat} {v : Value} {l : List (List Int)} (h : OwnG av w base v l) {p : Addr} {old : Value} (hp : v.ownBlock ≠ some p.block) (hc : w.cell? p = some old) (hn : noInt old) (x : Value) : OwnG av (w.setCell p x) base v l := by
  obtain ⟨S, h1, hown, hni, hav, h2⟩ := h
  refine ⟨S, h1, OwnsRow_far hown hp x, fun b hb j k i hq => ?_, hav, fun i y hy => ?_⟩
  · rw [World.cell?_setCell_other w p ⟨b, j, none⟩ x (fun e => hp (by rw [hb]; congr 1; first | exact congrArg Addr.block e | exact (congrArg Addr.block e).symm))] at hq
    exact hni b hb j k i hq
  · obtain ⟨u, k1, k2, k3⟩ := h2 i y hy
    exact ⟨u, k1, by rw [sz_setCell]; exact k2.kept (ints_setCell hc hn x), k3⟩
/-- A row of one's own lies behind what was there. -/
theorem own_offX {w : World} {base : Nat} {t : TypeId} {v : Value} {n : Nat} {S : List Value} (h : w.ownsRow base t 1 v n S) {X : Nat} (hX : X < base) : offX v X := fun ad m c e => by
  have hb : v.ownBlock = some ad.block := by rw [e]; rfl
  obtain ⟨_, _, h3⟩ := row_cells h hb
  omega
/-- append of one list, at an operation of a region that draws its order. -/
theorem step_append_list {w : World} {o : Oper} {a : Act} {K : Act → World → Prop} {Q : Exit → Act → World → Prop} (s x : Operand)
    (ho : o.op = .call { callee := .builtin .append, args := #[s, x], argTypes := #[47, 47] })
    (av : Option Nat) (base : Nat) (v : Value) (L : List (List Int)) (hs : a.eval s = v) (hO : OwnG av w base v L) (hbase : base ≤ w.heap.size) (hL : L.length ≤ 1000000)
    (ad : Addr) (y : List Int) (u : Value) (hx : a.eval x = .slice (some ad) 1 1) (hc : w.cell? ad = some u) (hI : IsI w w.heap.size u y) (hu : ∀ X, av = some X → offX u X ∧ X < w.heap.size)
    (h : ∀ v' w', OwnG av w' base v' (L ++ [y]) → w.grownBy w' v.ownBlock → KeepsOthers w w' → (∀ g, v.ownBlock = some g → base ≤ g ∧ ∃ cur, w.heap[g]? = some (.cells cur 22)) → NoIntB w v.ownBlock → K (a.put o.dst v') w') :
    Oper.wp Tryz.prog o a w K Q := by
  obtain ⟨i0, hi0, hz0, hz1, hz2⟩ := info_parts Tryz.ints_info
  obtain ⟨S, h1, hown, hni, hav, h2⟩ := hO
  obtain ⟨Au, cu, rfl, hcu⟩ := hI.form
  have hnews : ∀ j z, [Value.slice Au y.length cu][j]? = some z → w.cell? (ad.add j) = some z := fun j z hz => by
    cases j with
    | zero => simp at hz; subst hz; exact hc
    | succ j => simp at hz
  obtain ⟨v', w', hr, k2, k3, k5⟩ := append_ni (P := Tryz.prog) w base 47 o.type 22 i0 (.slice none 0 0) 1 24 Tryz.underlying47 hi0 hz0 hz1 hz2 rfl (by omega) v L.length S hown hni (fun u hu => by simp [Value.cells] at hu; subst hu; intro k i; simp) ad 1 1 [.slice Au y.length cu] rfl hnews (by intro z hz; simp at hz; subst hz; rfl) (by intro z hz; simp at hz; subst hz; intro k i; simp) (by omega) (by unfold maxLen; omega) (by omega) hbase
  obtain ⟨v2, w2, hr2, _, _, _, k6⟩ := run_append_own_at (P := Tryz.prog) w base 47 o.type 22 i0 (.slice none 0 0) 1 24 Tryz.underlying47 hi0 hz0 hz1 hz2 rfl (by omega) v L.length S hown ad 1 1 [.slice Au y.length cu] rfl hnews (by intro z hz; simp at hz; subst hz; rfl) (by unfold maxLen; omega) (by omega) hbase
  rw [hr] at hr2
  injection hr2 with e1 e2
  subst e1
  subst e2
  unfold Oper.wp execOp
  simp only [ho, resolve, invoke, builtin, Sem.run_bind, Sem.run_pure, Result.andThen_ok, List.map_toArray, List.map_cons, List.map_nil, hs, hx, hr]
  exact h v' w' (OwnG.add h1 hni hav h2 hI hu k2 k3 k5 k6) k3 (keeps_row hown k3) (fun g hg => by obtain ⟨cur, q1, q2⟩ := row_cells hown hg; exact ⟨q2, cur, q1⟩) hni
theorem wpL_append_list {w : World} {ops : Array Oper} {rest : List Oper} {o : Oper} {a : Act} {Q : Exit → Act → World → Prop} (hgd : o.guard = none) (s x : Operand)
    (ho : o.op = .call { callee := .builtin .append, args := #[s, x], argTypes := #[47, 47] })
    (av : Option Nat) (base : Nat) (v : Value) (L : List (List Int)) (hs : a.eval s = v) (hO : OwnG av w base v L) (hbase : base ≤ w.heap.size) (hL : L.length ≤ 1000000)
    (ad : Addr) (y : List Int) (u : Value) (hx : a.eval x = .slice (some ad) 1 1) (hc : w.cell? ad = some u) (hI : IsI w w.heap.size u y) (hu : ∀ X, av = some X → offX u X ∧ X < w.heap.size)
    (h : ∀ v' w', OwnG av w' base v' (L ++ [y]) → w.grownBy w' v.ownBlock → (∀ g, v.ownBlock = some g → base ≤ g) → wpList Tryz.prog ops Q rest (a.put o.dst v') w') :
    wpList Tryz.prog ops Q (o :: rest) a w :=
  wpList_plain hgd fun _ hK => step_append_list s x ho av base v L hs hO hbase hL ad y u hx hc hI hu fun v' w' h2 h3 _ h5 _ => hK _ _ (h v' w' h2 h3 fun g hg => (h5 g hg).1)
/-- A new block of one slice. -/
theorem new_one (w : World) (t : TypeId) (x : Value) : ∀ j u, [x][j]? = some u → (w.alloc (.cells #[x] t)).cell? ((⟨w.heap.size, 0, none⟩ : Addr).add j) = some u := fun j u hu => by
  have k := (Bk.new w t #[x]).cell (0 + j)
  rw [addr_mk, k]
  simpa using hu
end Go.Proofs.YtgnffedncjjkfaaGreatDoor

namespace Go.Proofs.YtgnffedncjjkfaaGreatDoor
open Go.RowKit Ix Ar

theorem grp_pos {G : List (List Int)} {N k : Nat} (h : ∀ g ∈ G, Dist g N) (hk : k < G.length) : (∀ p ∈ grp G k, p < N) ∧ (grp G k).length ≤ N ∧ (grp G k).map Int.ofNat = G[k] := by
  have hg := h _ (List.getElem_mem hk)
  have e : G.getD k [] = G[k] := by rw [List.getD_eq_getElem?_getD, List.getElem?_eq_getElem hk]; rfl
  have hb : (grp G k).map Int.ofNat = G[k] := by unfold grp; rw [e]; exact nats_back (fun s hs => (hg.1 s hs).1)
  have hp : ∀ p ∈ grp G k, p < N := fun p hp => by
    unfold grp at hp
    rw [e] at hp
    obtain ⟨z, hz, rfl⟩ := List.mem_map.1 hp
    have := hg.1 z hz
    omega
  refine ⟨hp, nodup_le N _ ?_ hp, hb⟩
  have hn := hg.2
  rw [← hb] at hn
  exact (List.pairwise_map.1 hn).imp (fun hab e => hab (by rw [e]))
theorem along_group {S : List Int} {V : List ByteArray} {y : Nat} {red : Int} {G : List (List Int)} (h1 : VA (S, V)) (h2 : AxOk (S, V) y red) (h3 : ∀ g ∈ G, Dist g ((S.map Int.toNat).getD y 0)) : groupR (S, V) y red G = alongR (S, V) y red G.length (grp G) := by
  unfold groupR alongR
  rw [if_pos h1, if_pos ⟨h2, by rw [Int.toNat_natCast]; exact h3⟩]

set_option maxRecDepth 100000 in
set_option maxHeartbeats 3200000 in
theorem group_any (a : Arr) (x red : Int) (G : List (List Int)) (va vg : Value) (w : World) (ha : IsA w w.heap.size va a) (hG : IsG w w.heap.size vg G) (hi : InA a) (he : Env w) (her : EnvR w) (hV2 : a.2.length ≤ 5000) (hGl : G.length ≤ 100000) (hgl : ∀ g ∈ G, g.length ≤ maxLen) :
    Calls Tryz.prog 57 #[va, .int .i64 x, .int .i64 red, vg] w fun e w' => Below w.heap.size w w' ∧ ∃ u, e = .returned (.tuple #[u, .int .i64 (groupR a x red G).2]) ∧ IsA w' w'.heap.size u (groupR a x red G).1 := by
  obtain ⟨A, c, A', c', rfl, hc, hc'⟩ := ha.form
  obtain ⟨Ag, cg, rfl⟩ := hG.form
  have hha := ha
  obtain ⟨hS, hT⟩ := ha.parts
  obtain ⟨S, V⟩ := a
  simp only at hS hT hc hc' hV2
  have CK := Lib.hid (fun W (hW : Below w.heap.size w W) => checked_any (S, V) x red _ W (hha.next hW) hi (he.next hW))
  have B0 := BxW.start3 w 25 47 25 #[.slice A S.length c, .slice A' V.length c'] #[.slice Ag G.length cg] #[.slice none 0 0, .slice none 0 0]
  rcases chkR_or (S, V) x red with ⟨h1, h2⟩ | ⟨h1, h2, h3⟩ | ⟨h1, h2, h3⟩
  · skip
    rw [groupR_bad h2]
    rw [h1] at CK
    clear hS hT hi he her hha ha hG
    go_enter Tryz.func57, Tryz.ntmps57
    obtain ⟨b0, b1⟩ := bkA B0.one
    go_wp2_with fail
    generalize (((w.alloc (.cells #[.slice A S.length c, .slice A' V.length c'] 25)).alloc (.cells #[.slice Ag G.length cg] 47)).alloc (.cells #[.slice none 0 0, .slice none 0 0] 25)) = W0 at *
    refine (CK.out W0 B0.below).mono ?_
    rintro e w1 ⟨hb1, rfl⟩
    have B1 := B0.next hb1
    clear b0 b1
    obtain ⟨d0, d1⟩ := bkA B1.three
    have f0 := B1.three.frozen 0
    have f1 := B1.three.frozen 1
    go_wp2
    refine bodyPost_ret (v := .tuple #[.agg #[.slice none 0 0, .slice none 0 0], .int .i64 60]) (by simp [results, Tryz.results57, go_sem, d0, d1]) rfl ?_
    exact ⟨(B1.below.setCell (p := ⟨w.heap.size + 2, 0, none⟩) (by simp) _).setCell (p := ⟨w.heap.size + 2, 1, none⟩) (by simp) _, _, rfl, IsA.zero _ _⟩
  · skip
    rw [groupR_arg h2 (fun h => h3 h.1)]
    rw [h1] at CK
    clear hS hT hi he her hha ha hG
    go_enter Tryz.func57, Tryz.ntmps57
    obtain ⟨b0, b1⟩ := bkA B0.one
    go_wp2_with fail
    generalize (((w.alloc (.cells #[.slice A S.length c, .slice A' V.length c'] 25)).alloc (.cells #[.slice Ag G.length cg] 47)).alloc (.cells #[.slice none 0 0, .slice none 0 0] 25)) = W0 at *
    refine (CK.out W0 B0.below).mono ?_
    rintro e w1 ⟨hb1, rfl⟩
    have B1 := B0.next hb1
    clear b0 b1
    obtain ⟨d0, d1⟩ := bkA B1.three
    have f0 := B1.three.frozen 0
    have f1 := B1.three.frozen 1
    go_wp2
    refine bodyPost_ret (v := .tuple #[.agg #[.slice none 0 0, .slice none 0 0], .int .i64 2]) (by simp [results, Tryz.results57, go_sem, d0, d1]) rfl ?_
    exact ⟨(B1.below.setCell (p := ⟨w.heap.size + 2, 0, none⟩) (by simp) _).setCell (p := ⟨w.heap.size + 2, 1, none⟩) (by simp) _, _, rfl, IsA.zero _ _⟩
  rw [h1] at CK
  have hAx := h3
  obtain ⟨⟨hx0, hxS⟩, h4, h5⟩ := h3
  obtain ⟨y, rfl⟩ : ∃ y : Nat, x = (y : Int) := ⟨x.toNat, by omega⟩
  have hyS : y < S.length := by simp only at hxS; omega
  have hVS : VS S := h2.1
  have hSm : (S.map Int.toNat).length = S.length := List.length_map _
  obtain ⟨N, hN⟩ : ∃ N, N = (S.map Int.toNat).getD y 0 := ⟨_, rfl⟩
  have hSy : S[y] = (N : Int) := by
    have h0 := (hVS.2.1 _ (List.getElem_mem hyS)).1
    rw [hN, getD_in (by rw [hSm]; exact hyS), List.getElem_map, Int.toNat_of_nonneg h0]
  have hN1 : N ≤ 1024 := by have := (hVS.2.1 _ (List.getElem_mem hyS)).2; omega
  have HS1 := Lib.hid (fun W (hW : Below w.heap.size w W) => show ∃ ad, A = some ad ∧ W.cell? (ad.add y) = some (.int .i64 (N : Int)) from by
    obtain ⟨ad, e1, e2, e3⟩ := (hS.rd.below hW).zint hyS
    exact ⟨ad, e1, by rw [e3, hSy]⟩)
  have HGA := Lib.hid (fun k (hk : k < G.length) => show ∃ ad A2 c2, Ag = some ad ∧ ad.block < w.heap.size ∧ w.cell? (ad.add k) = some (.slice A2 G[k].length c2) ∧ IsI w w.heap.size (.slice A2 G[k].length c2) G[k] from by
    obtain ⟨ad, A2, c2, e1, e2, e3, e4⟩ := hG.at (List.getElem?_eq_getElem hk)
    exact ⟨ad, A2, c2, e1, e2, e3, e4⟩)
  have HBAD := Lib.hid (fun (h : ∃ g ∈ G, ¬ Dist g N) => show groupR (S, V) (y : Int) red G = (([], []), 2) from groupR_arg h2 (fun h' => by
    obtain ⟨g, hg, hn⟩ := h
    have := h'.2 g hg
    rw [Int.toNat_natCast, ← hN] at this
    exact hn this))
  have HOK := Lib.hid (fun (h : ∀ g ∈ G, Dist g N) => show groupR (S, V) (y : Int) red G = alongR (S, V) y red G.length (grp G) from along_group h2 hAx (by rw [← hN]; exact h))
  have AL := Lib.hid (fun (hD : ∀ g ∈ G, Dist g N) W (hW : Below w.heap.size w W) (hb : W.cell? ⟨w.heap.size + 1, 0, none⟩ = some (.slice Ag G.length cg)) => along_any (S, V) y red G.length _ 114 #[.pointer (some ⟨w.heap.size + 1, 0, none⟩)] (enters_of Tryz.func114 (by kernel_rfl) rfl) (grp G) W (hha.next hW) (he.next hW) (her.next hW) h2 hyS h4 h5 hV2 (by omega)
    (fun k hk => by
      obtain ⟨p1, p2, p3⟩ := grp_pos hD hk
      rw [← hN]
      exact ⟨p1, p2⟩) (fun k W2 hk hW2 => by
      obtain ⟨p1, p2, p3⟩ := grp_pos hD hk
      obtain ⟨ad, A2, c2, rfl, e2, e3, e4⟩ := HGA.out k hk
      have hWW := hW.trans (hW2.mono hW.size)
      refine (group1_any k (w.heap.size + 1) G.length cg G[k].length c2 ad A2 W2 hk ((hW2.cell (p := ⟨w.heap.size + 1, 0, none⟩) (World.block_lt_of_cell? _ _ hb)).trans hb) ((hWW.cell (p := ad.add k) (by rw [addr_block]; exact e2)).trans e3)).mono (fun e w' ⟨q1, q2⟩ => ?_)
      subst q1
      exact ⟨Below.refl _ _, _, q2, by rw [p3]; exact e4.next hWW⟩))
  have HGZ := Lib.hid hgl
  have hxS' : (y : Int) < (S.length : Int) := hxS
  have hx0' : (0 : Int) ≤ (y : Int) := by omega
  generalize groupR (S, V) (y : Int) red G = R at *
  obtain ⟨Ra, Re⟩ := R
  clear hS hT hi he her hha ha hG hN hSy h2 hVS hSm h4 h5 hgl h1 hAx hxS hx0
  go_enter Tryz.func57, Tryz.ntmps57
  obtain ⟨b0, b1⟩ := bkA B0.one
  go_wp2_with fail
  generalize (((w.alloc (.cells #[.slice A S.length c, .slice A' V.length c'] 25)).alloc (.cells #[.slice Ag G.length cg] 47)).alloc (.cells #[.slice none 0 0, .slice none 0 0] 25)) = W0 at *
  refine (CK.out W0 B0.below).mono ?_
  rintro e w1 ⟨hb1, rfl⟩
  have B1 := B0.next hb1
  clear b0 b1 CK B0 hb1
  have g0 : w1.cell? ⟨w.heap.size + 1, 0, none⟩ = some (Value.slice Ag G.length cg) := B1.two.cell 0
  go_wp2_with fail
  clear g0
  go_loopw [23] (fun i wr => ∃ k : Nat, k ≤ G.length ∧ i = .int .i64 k ∧ Hid (∀ g ∈ G.take k, Dist g N) ∧ BxW w [(w.heap.size, 25, #[.slice A S.length c, .slice A' V.length c']), (w.heap.size + 1, 47, #[.slice Ag G.length cg]), (w.heap.size + 2, 25, #[.slice none 0 0, .slice none 0 0])] wr) (fun i _ => G.length - (intOf i).toNat)
  case atStart => exact ⟨0, Nat.zero_le _, rfl, (fun g h => by simp at h), B1⟩
  case round =>
    clear B1
    obtain ⟨k, hk, rfl, HD, B⟩ := hrel
    by_cases hlt : k < G.length
    · obtain ⟨ad, A2, c2, rfl, e2, e3, e4⟩ := HGA.out k hlt
      have hc3 := (B.below.cell (p := ad.add k) (by rw [addr_block]; exact e2)).trans e3
      obtain ⟨q, hq⟩ : ∃ b : Bool, b = true ↔ Dist G[k] N := by classical exact ⟨decide _, decide_eq_true_iff⟩
      have DD := Lib.hid (distinct_any G[k] N A2 c2 w.heap.size wr (e4.rd.below B.below) B.below.size (by omega) (HGZ.out _ (List.getElem_mem hlt)) q hq)
      have HNX : Hid (q = true → ∀ g ∈ G.take (k + 1), Dist g N) := fun h g hg => by
        rw [List.take_succ_eq_append_getElem hlt] at hg
        rcases List.mem_append.1 hg with h1 | h1
        · exact HD.out g h1
        · simp at h1; subst h1; exact hq.1 h
      have HBD : Hid (q = false → (Ra, Re) = (([], []), 2)) := fun h => HBAD.out ⟨G[k], List.getElem_mem hlt, fun h' => by rw [hq.2 h'] at h; cases h⟩
      obtain ⟨b0, b1⟩ := bkA B.one
      obtain ⟨ads, rfl, hcy⟩ := HS1.out wr B.below
      generalize G[k] = g at *
      clear hq e3 e4 AL HOK HBAD
      cases q
      · have hR := HBD.out rfl
        injection hR with r1 r2
        subst r1
        subst r2
        clear HBD HNX
        go_wp2_with fail
        refine DD.out.mono ?_
        rintro e w2 ⟨hb2, rfl⟩
        have B2 := B.next hb2
        clear b0 b1 hc3 hcy
        obtain ⟨d0, d1⟩ := bkA B2.three
        have f0 := B2.three.frozen 0
        have f1 := B2.three.frozen 1
        go_wp2
        refine bodyPost_ret (v := .tuple #[.agg #[.slice none 0 0, .slice none 0 0], .int .i64 2]) (by simp [results, Tryz.results57, go_sem, d0, d1]) rfl ?_
        exact ⟨(B2.below.setCell (p := ⟨w.heap.size + 2, 0, none⟩) (by simp) _).setCell (p := ⟨w.heap.size + 2, 1, none⟩) (by simp) _, _, rfl, IsA.zero _ _⟩
      · have HN2 := Lib.hid (HNX.out rfl)
        clear HBD HNX
        go_wp2_with fail
        refine DD.out.mono ?_
        rintro e w2 ⟨hb2, rfl⟩
        have B2 := B.next hb2
        clear b0 b1 hc3 hcy
        go_wp2
        go_roundw
        case rel => exact ⟨k + 1, by omega, by go_num, HN2.out, B2⟩
        case measure => simp [intOf]; omega
    · obtain rfl : k = G.length := by omega
      have hD : ∀ g ∈ G, Dist g N := fun g hg => HD.out g (by rw [List.take_length]; exact hg)
      have HR := Lib.hid (HOK.out hD)
      have ALD := Lib.hid (AL.out hD wr B.below (B.two.cell 0))
      rw [← HR.out] at ALD
      simp only at ALD
      obtain ⟨b0, b1⟩ := bkA B.one
      have g0 : wr.cell? ⟨w.heap.size + 1, 0, none⟩ = some (Value.slice Ag G.length cg) := B.two.cell 0
      clear AL HOK HBAD HD hD HR
      go_wp2_with fail
      refine ALD.out.mono ?_
      rintro e w2 ⟨hb2, u, rfl, hu, -⟩
      have B2 := B.next hb2
      obtain ⟨A1, c1, A2, c2, rfl, -, -⟩ := hu.form
      clear b0 b1 g0 ALD
      obtain ⟨d0, d1⟩ := bkA B2.three
      have f0 := B2.three.frozen 0
      have f1 := B2.three.frozen 1
      go_wp2
      refine bodyPost_ret (v := .tuple #[.agg #[.slice A1 Ra.1.length c1, .slice A2 Ra.2.length c2], .int .i64 Re]) (by simp [results, Tryz.results57, go_sem, d0, d1]) rfl ?_
      exact ⟨(B2.below.setCell (p := ⟨w.heap.size + 2, 0, none⟩) (by simp) _).setCell (p := ⟨w.heap.size + 2, 1, none⟩) (by simp) _, _, rfl, hu.ret d0 d1 _ _⟩
end Go.Proofs.YtgnffedncjjkfaaGreatDoor

namespace Go.Proofs.YtgnffedncjjkfaaGreatDoor
open Go.RowKit Ix Ar

theorem alV_sub {S : List Nat} {V : List ByteArray} {x : Nat} {I ps : List Nat} {N : Nat} (h : ∀ p ∈ ps, p < N) {k : Nat} (hk : k < ps.length) : (alV S V x I (List.range N))[ps[k]]'(by rw [alV_len, List.length_range]; exact h _ (List.getElem_mem hk)) = V.getD (place S (I.set x ps[k])) ⟨#[]⟩ := by
  unfold alV
  rw [List.getElem_map, List.getElem_range]
theorem alV_set (S : List Nat) (V : List ByteArray) (x a : Nat) (I ps : List Nat) : alV S V x (I.set x a) ps = alV S V x I ps := by
  unfold alV
  refine List.map_congr_left fun p _ => ?_
  rw [List.set_set]

set_option maxRecDepth 100000 in
set_option maxHeartbeats 1600000 in
theorem rgroup_any (a : Arr) (x red : Int) (G : List (List Int)) (va vg : Value) (w : World) (ha : IsA w w.heap.size va a) (hG : IsG w w.heap.size vg G) (hi : InA a) (hV2 : a.2.length ≤ 5000) (hGl : G.length ≤ 100000) (hgl : ∀ g ∈ G, g.length ≤ maxLen) :
    Calls Tryz.prog 58 #[va, .int .i64 x, .int .i64 red, vg] w fun e w' => Below w.heap.size w w' ∧ ∃ u, e = .returned (.tuple #[u, .int .i64 (groupR a x red G).2]) ∧ IsA w' w'.heap.size u (groupR a x red G).1 := by
  obtain ⟨A, c, A', c', rfl, hc, hc'⟩ := ha.form
  obtain ⟨Ag, cg, rfl⟩ := hG.form
  obtain ⟨i0, hi0, hz0, hz1, hz2⟩ := info_parts Tryz.str_info
  have hha := ha
  obtain ⟨hS, hT⟩ := ha.parts
  obtain ⟨S, V⟩ := a
  simp only at hS hT hc hc' hV2
  have CK := Lib.hid (fun W (hW : Below w.heap.size w W) => raxial_any (S, V) x red _ W (hha.next hW) hi)
  have B0 := BxW.start2 w 25 25 #[.slice A S.length c, .slice A' V.length c'] #[.slice none 0 0, .slice none 0 0]
  rcases chkR_or (S, V) x red with ⟨h1, h2⟩ | ⟨h1, h2, h3⟩ | ⟨h1, h2, h3⟩
  · skip
    rw [groupR_bad h2]
    rw [h1] at CK
    clear hS hT hi hha ha hG
    go_enter Tryz.func58, Tryz.ntmps58
    obtain ⟨b0, b1⟩ := bkA B0.one
    go_wp2_with fail
    generalize ((w.alloc (.cells #[.slice A S.length c, .slice A' V.length c'] 25)).alloc (.cells #[.slice none 0 0, .slice none 0 0] 25)) = W0 at *
    refine (CK.out W0 B0.below).mono ?_
    rintro e w1 ⟨hb1, rfl⟩
    have B1 := B0.next hb1
    clear b0 b1
    obtain ⟨d0, d1⟩ := bkA B1.two
    have f0 := B1.two.frozen 0
    have f1 := B1.two.frozen 1
    go_wp2
    refine bodyPost_ret (v := .tuple #[.agg #[.slice none 0 0, .slice none 0 0], .int .i64 60]) (by simp [results, Tryz.results58, go_sem, d0, d1]) rfl ?_
    exact ⟨(B1.below.setCell (p := ⟨w.heap.size + 1, 0, none⟩) (by simp) _).setCell (p := ⟨w.heap.size + 1, 1, none⟩) (by simp) _, _, rfl, IsA.zero _ _⟩
  · skip
    rw [groupR_arg h2 (fun h => h3 h.1)]
    rw [h1] at CK
    clear hS hT hi hha ha hG
    go_enter Tryz.func58, Tryz.ntmps58
    obtain ⟨b0, b1⟩ := bkA B0.one
    go_wp2_with fail
    generalize ((w.alloc (.cells #[.slice A S.length c, .slice A' V.length c'] 25)).alloc (.cells #[.slice none 0 0, .slice none 0 0] 25)) = W0 at *
    refine (CK.out W0 B0.below).mono ?_
    rintro e w1 ⟨hb1, rfl⟩
    have B1 := B0.next hb1
    clear b0 b1
    obtain ⟨d0, d1⟩ := bkA B1.two
    have f0 := B1.two.frozen 0
    have f1 := B1.two.frozen 1
    go_wp2
    refine bodyPost_ret (v := .tuple #[.agg #[.slice none 0 0, .slice none 0 0], .int .i64 2]) (by simp [results, Tryz.results58, go_sem, d0, d1]) rfl ?_
    exact ⟨(B1.below.setCell (p := ⟨w.heap.size + 1, 0, none⟩) (by simp) _).setCell (p := ⟨w.heap.size + 1, 1, none⟩) (by simp) _, _, rfl, IsA.zero _ _⟩
  rw [h1] at CK
  have hAx := h3
  obtain ⟨⟨hx0, hxS⟩, h4, h5⟩ := h3
  obtain ⟨y, rfl⟩ : ∃ y : Nat, x = (y : Int) := ⟨x.toNat, by omega⟩
  have hyS : y < S.length := by simp only at hxS; omega
  have hVS : VS S := h2.1
  have hl : V.length = Ix.prod (S.map Int.toNat) := h2.2.1
  have hvv := h2.2.2
  have hS4 := hVS.1
  have hSm : (S.map Int.toNat).length = S.length := List.length_map _
  obtain ⟨N, hN⟩ : ∃ N, N = (S.map Int.toNat).getD y 0 := ⟨_, rfl⟩
  obtain ⟨n, hn⟩ : ∃ n, n = G.length := ⟨_, rfl⟩
  have hSy : S[y] = (N : Int) := by
    have h0 := (hVS.2.1 _ (List.getElem_mem hyS)).1
    rw [hN, getD_in (by rw [hSm]; exact hyS), List.getElem_map, Int.toNat_of_nonneg h0]
  have hN1 : N ≤ 1024 := by have := (hVS.2.1 _ (List.getElem_mem hyS)).2; omega
  have HS1 := Lib.hid (fun W (hW : Below w.heap.size w W) => show ∃ ad, A = some ad ∧ W.cell? (ad.add y) = some (.int .i64 (N : Int)) from by
    obtain ⟨ad, e1, e2, e3⟩ := (hS.rd.below hW).zint hyS
    exact ⟨ad, e1, by rw [e3, hSy]⟩)
  have HGA := Lib.hid (fun k (hk : k < G.length) => show ∃ ad A2 c2, Ag = some ad ∧ ad.block < w.heap.size ∧ w.cell? (ad.add k) = some (.slice A2 G[k].length c2) ∧ IsI w w.heap.size (.slice A2 G[k].length c2) G[k] from by
    obtain ⟨ad, A2, c2, e1, e2, e3, e4⟩ := hG.at (List.getElem?_eq_getElem hk)
    exact ⟨ad, A2, c2, e1, e2, e3, e4⟩)
  have HBAD := Lib.hid (fun (h : ∃ g ∈ G, ¬ Dist g N) => show groupR (S, V) (y : Int) red G = (([], []), 2) from groupR_arg h2 (fun h' => by
    obtain ⟨g, hg, hn⟩ := h
    have := h'.2 g hg
    rw [Int.toNat_natCast, ← hN] at this
    exact hn this))
  have HOK := Lib.hid (fun (h : ∀ g ∈ G, Dist g N) (k : VS (S.set y (n : Int))) => show groupR (S, V) (y : Int) red G = ((S.set y (n : Int), alongV (S.map Int.toNat) V y red n (grp G)), 0) from by
    rw [groupR_ok h2 ⟨hAx, by rw [Int.toNat_natCast, ← hN]; exact h⟩ (by rw [Int.toNat_natCast, ← hn]; exact k), Int.toNat_natCast, ← hn])
  have HSH := Lib.hid (fun (h : ∀ g ∈ G, Dist g N) (k : ¬ VS (S.set y (n : Int))) => show groupR (S, V) (y : Int) red G = (([], []), 60) from
    groupR_shape h2 ⟨hAx, by rw [Int.toNat_natCast, ← hN]; exact h⟩ (by rw [Int.toNat_natCast, ← hn]; exact k))
  obtain ⟨qv, hqv⟩ : ∃ b : Bool, b = true ↔ VS (S.set y (n : Int)) := by classical exact ⟨decide _, decide_eq_true_iff⟩
  obtain ⟨PS, hPS⟩ : ∃ PS, PS = (S.map Int.toNat).set y n := ⟨_, rfl⟩
  have hPm : (S.set y (n : Int)).map Int.toNat = PS := by rw [hPS, List.map_set, Int.toNat_natCast]
  have hPl : PS.length = S.length := by rw [hPS, List.length_set, hSm]
  have hback : (S.map Int.toNat).map Int.ofNat = S := nats_back (fun s hs => (hVS.2.1 s hs).1)
  have WO := Lib.hid (fun W (hW : Below w.heap.size w W) => rwith_any (S.map Int.toNat) y n c w.heap.size A W (by rw [hback]; exact hS.rd.below hW) hW.size (by rw [hSm]; exact hyS) (by rw [hSm]; omega))
  have hms : (((S.map Int.toNat).set y n).map Int.ofNat) = S.set y (n : Int) := by
    rw [List.map_set, hback]; rfl
  rw [hSm, hms] at WO
  obtain ⟨f, hf⟩ : ∃ f, f = fun k => redT red (numsT (alV (S.map Int.toNat) V y (idx PS k) (grp G ((idx PS k).getD y 0)))) := ⟨_, rfl⟩
  have htab : alongV (S.map Int.toNat) V y red n (grp G) = (List.range (Ix.prod PS)).map f := by
    unfold alongV
    rw [hf, hPS]
    rfl
  rw [htab] at HOK
  have HF := Lib.hid (fun k => show f k = redT red (numsT (alV (S.map Int.toNat) V y (idx PS k) (grp G ((idx PS k).getD y 0)))) from by rw [hf])
  have HIL := Lib.hid (fun k => show (idx PS k).length = S.length from by rw [idx_len, hPl])
  have HIY := Lib.hid (fun k (hk : k < Ix.prod PS) => show (idx PS k).getD y 0 < n from by
    have := ((inside_iff _ _).1 (idx_inside _ k hk)).2 y (by rw [hPl]; exact hyS)
    rwa [hPS, set_getD (by rw [hSm]; exact hyS), if_pos rfl, ← hPS] at this)
  have WI := Lib.hid (fun W (k : Nat) (A1 : Option Addr) (c1 : Nat) (hr : Rd W W.heap.size A1 (zints ((idx PS k).map Int.ofNat))) => rwith_any (idx PS k) y 0 c1 W.heap.size A1 W hr (Nat.le_refl _) (by rw [HIL.out]; exact hyS) (by rw [HIL.out]; omega))
  have AL := Lib.hid (fun W (hW : Below w.heap.size w W) (k : Nat) (hk : k < Ix.prod PS) vI (hI : IsI W W.heap.size vI (((idx PS k).set y 0).map Int.ofNat)) => show Calls Tryz.prog 108 #[.agg #[.slice A S.length c, .slice A' V.length c'], .int .i64 y, vI] W fun e W' => Below W.heap.size W W' ∧ ∃ u, e = .returned u ∧ IsT W' W'.heap.size u (alV (S.map Int.toNat) V y (idx PS k) (List.range N)) from by
    have := ralong_any S V y N ((idx PS k).set y 0) _ vI W (hha.next hW) hI hVS hl hyS (by rw [List.length_set, HIL.out]) hN (fun p hp => by
      rw [List.set_set]
      exact inside_set _ _ _ p n (by rw [hSm]; exact hyS) (by rw [← hPS]; exact idx_inside _ k hk) (by rw [← hN]; exact hp))
    rwa [alV_set] at this)
  have RD := Lib.hid (fun W (k i : Nat) (hD : ∀ g ∈ G, Dist g N) (hi : i < n) u (hu : IsT W W.heap.size u (alV (S.map Int.toNat) V y (idx PS k) (grp G i))) => rreduction_any _ red u W hu (by rw [alV_len]; have := (grp_pos hD (by rw [← hn]; exact hi)).2.1; omega) (fun s hs => (alV_val hvv s hs).2) (fun s hs => (alV_val hvv s hs).1) h4 h5)
  have VSH := Lib.hid (fun W (B : Nat) (Au : Option Addr) (cu : Nat) (hu : Rd W B Au (zints (S.set y (n : Int)))) => rvalidshape_any (S.set y (n : Int)) Au cu B W hu (by rw [List.length_set]; unfold maxLen; omega) qv hqv)
  rw [List.length_set] at VSH
  have CC := Lib.hid (fun (hq : VS (S.set y (n : Int))) W (B : Nat) (Au : Option Addr) (cu : Nat) (hu : Rd W B Au (zints (S.set y (n : Int)))) => rcount_any PS Au cu B W (by have := hq.sz; rwa [hPm] at this) (by rw [← hPm, ← hq.cells]; exact hu))
  have IX := Lib.hid (fun (hq : VS (S.set y (n : Int))) W (Au : Option Addr) (cu : Nat) (hu : Rd W W.heap.size Au (zints (S.set y (n : Int)))) (k : Nat) (hk : k < Ix.prod PS) => rindex_any PS k Au cu W (by have := hq.sz; rwa [hPm] at this) hk (by rw [← hPm, ← hq.cells]; exact hu))
  rw [hPl] at CC IX
  have HP4 := Lib.hid (fun (hq : VS (S.set y (n : Int))) => show Ix.prod PS ≤ 4096 from by have := hq.2.2; rwa [hPm] at this)
  have HGZ := Lib.hid hgl
  have HQV := Lib.hid hqv
  have hxS' : (y : Int) < (S.length : Int) := hxS
  have hx0' : (0 : Int) ≤ (y : Int) := by omega
  generalize groupR (S, V) (y : Int) red G = R at *
  obtain ⟨Ra, Re⟩ := R
  rw [← hn] at hGl
  have HNG := Lib.hid hn
  clear hS hT hi hha ha hG hN hSy h2 hVS hSm h4 h5 hgl h1 hAx hxS hx0 hl hvv hPS hPm hf htab hback hms hqv
  go_enter Tryz.func58, Tryz.ntmps58
  obtain ⟨b0, b1⟩ := bkA B0.one
  go_wp2_with fail
  generalize ((w.alloc (.cells #[.slice A S.length c, .slice A' V.length c'] 25)).alloc (.cells #[.slice none 0 0, .slice none 0 0] 25)) = W0 at *
  refine (CK.out W0 B0.below).mono ?_
  rintro e w1 ⟨hb1, rfl⟩
  have B1 := B0.next hb1
  clear b0 b1 CK B0 hb1
  go_wp2_with fail
  rw [← hn]
  clear hn
  go_loopw [11] (fun i wr => ∃ k : Nat, k ≤ n ∧ i = .int .i64 k ∧ Hid (∀ g ∈ G.take k, Dist g N) ∧ BxW w [(w.heap.size, 25, #[.slice A S.length c, .slice A' V.length c']), (w.heap.size + 1, 25, #[.slice none 0 0, .slice none 0 0])] wr) (fun i _ => n - (intOf i).toNat)
  case atStart => exact ⟨0, Nat.zero_le _, rfl, (fun g h => by simp at h), B1⟩
  case round =>
    clear B1
    obtain ⟨k, hk, rfl, HD, B⟩ := hrel
    by_cases hlt : k < n
    · have hlg : k < G.length := by rw [← HNG.out]; exact hlt
      obtain ⟨ad, A2, c2, rfl, e2, e3, e4⟩ := HGA.out k hlg
      have hc3 := (B.below.cell (p := ad.add k) (by rw [addr_block]; exact e2)).trans e3
      obtain ⟨q, hq⟩ : ∃ b : Bool, b = true ↔ G[k].length = G[k].length ∧ Dist G[k] N := by classical exact ⟨decide _, decide_eq_true_iff⟩
      have DD := Lib.hid (fun W (hW : Below w.heap.size w W) => rdistinct_any G[k] G[k].length N A2 c2 w.heap.size W (e4.rd.below hW) hW.size (HGZ.out _ (List.getElem_mem hlg)) q hq)
      have HNX : Hid (q = true → ∀ g ∈ G.take (k + 1), Dist g N) := fun h g hg => by
        rw [List.take_succ_eq_append_getElem hlg] at hg
        rcases List.mem_append.1 hg with h1 | h1
        · exact HD.out g h1
        · simp at h1; subst h1; exact (hq.1 h).2
      have HBD : Hid (q = false → (Ra, Re) = (([], []), 2)) := fun h => HBAD.out ⟨G[k], List.getElem_mem hlg, fun h' => by rw [hq.2 ⟨rfl, h'⟩] at h; cases h⟩
      obtain ⟨b0, b1⟩ := bkA B.one
      obtain ⟨ads, rfl, hcy⟩ := HS1.out wr B.below
      have i0' : (0 : Int) ≤ (k : Int) := by omega
      have i1' : (k : Int) < (n : Int) := by omega
      generalize G[k] = g at *
      clear hq e3 e4 AL HOK HBAD HSH WI RD CC IX HP4 VSH HF HIL HIY WO HQV HGZ hlg
      go_wp2_with fail
      refine wp_region_held_drew (S := fun Y => ((Y.cell? ⟨w.heap.size, 0, none⟩ = some (.slice (some ads) S.length c) ∧ Y.cell? ⟨w.heap.size, 1, none⟩ = some (.slice A' V.length c')) ∧ Y.cell? (ad.add k) = some (.slice A2 g.length c2)) ∧ Y.cell? (ads.add y) = some (.int .i64 (N : Int))) (by kernel_rfl) ⟨⟨⟨b0, b1⟩, hc3⟩, hcy⟩ (fun hS => ?_)
      clear b0 b1
      have Bd : BxW w [(w.heap.size, 25, #[.slice (some ads) S.length c, .slice A' V.length c']), (w.heap.size + 1, 25, #[.slice none 0 0, .slice none 0 0])] wr.drew := ⟨B.below.drew, B.keep⟩
      have hcd := And.intro hc3 hcy
      clear hc3 hcy B
      have DDd := Lib.hid (DD.out wr.drew Bd.below)
      refine takeA (i := 0) (v := ?_) rfl (by kernel_rfl) (by kernel_rfl) (by kernel_rfl) (fun _ _ _ h => h) (by rfl) (by assumption) ?_ ?_
      rotate_left
      · intro w hSw; (try dsimp only at hSw); go_simp <;> with_reducible rfl
      try simp only [Act.put, List.setIfInBounds_toArray, List.set_cons_zero, List.set_cons_succ]
      refine takeA (i := 1) (v := ?_) rfl (by kernel_rfl) (by kernel_rfl) (by kernel_rfl) (fun _ _ _ h => h) (by rfl) (by assumption) ?_ ?_
      rotate_left
      · intro w hSw; (try dsimp only at hSw); go_simp <;> with_reducible rfl
      try simp only [Act.put, List.setIfInBounds_toArray, List.set_cons_zero, List.set_cons_succ]
      refine takeA (i := 2) (v := ?_) rfl (by kernel_rfl) (by kernel_rfl) (by kernel_rfl) (fun _ _ _ h => h) (by rfl) (by assumption) ?_ ?_
      rotate_left
      · intro w hSw; (try dsimp only at hSw); go_simp <;> with_reducible rfl
      try simp only [Act.put, List.setIfInBounds_toArray, List.set_cons_zero, List.set_cons_succ]
      refine takeA (i := 3) (v := ?_) rfl (by kernel_rfl) (by kernel_rfl) (by kernel_rfl) (fun _ _ _ h => h) (by rfl) (by assumption) ?_ ?_
      rotate_left
      · intro w hSw; (try dsimp only at hSw); go_simp <;> with_reducible rfl
      try simp only [Act.put, List.setIfInBounds_toArray, List.set_cons_zero, List.set_cons_succ]
      refine takeA (i := 4) (v := ?_) rfl (by kernel_rfl) (by kernel_rfl) (by kernel_rfl) (fun _ _ _ h => h) (by rfl) (by assumption) ?_ ?_
      rotate_left
      · intro w hSw; (try dsimp only at hSw); go_simp <;> with_reducible rfl
      try simp only [Act.put, List.setIfInBounds_toArray, List.set_cons_zero, List.set_cons_succ]
      refine takeA (i := 5) (v := ?_) rfl (by kernel_rfl) (by kernel_rfl) (by kernel_rfl) (fun _ _ _ h => h) (by rfl) (by assumption) ?_ ?_
      rotate_left
      · intro w hSw; (try dsimp only at hSw); go_simp <;> with_reducible rfl
      try simp only [Act.put, List.setIfInBounds_toArray, List.set_cons_zero, List.set_cons_succ]
      refine takeA (i := 6) (v := ?_) rfl (by kernel_rfl) (by kernel_rfl) (by kernel_rfl) (fun _ _ _ h => h) (by rfl) (by assumption) ?_ ?_
      rotate_left
      · intro w hSw; (try dsimp only at hSw); go_simp <;> with_reducible rfl
      try simp only [Act.put, List.setIfInBounds_toArray, List.set_cons_zero, List.set_cons_succ]
      refine takeA (i := 7) (v := ?_) rfl (by kernel_rfl) (by kernel_rfl) (by kernel_rfl) (fun _ _ _ h => h) (by rfl) (by assumption) ?_ ?_
      rotate_left
      · intro w hSw; (try dsimp only at hSw); go_simp <;> with_reducible rfl
      try simp only [Act.put, List.setIfInBounds_toArray, List.set_cons_zero, List.set_cons_succ]
      refine takeA (i := 8) (v := ?_) rfl (by kernel_rfl) (by kernel_rfl) (by kernel_rfl) (fun _ _ _ h => h) (by rfl) (by assumption) ?_ ?_
      rotate_left
      · intro w hSw; (try dsimp only at hSw); go_simp <;> with_reducible rfl
      try simp only [Act.put, List.setIfInBounds_toArray, List.set_cons_zero, List.set_cons_succ]
      refine takeA (i := 9) (v := ?_) rfl (by kernel_rfl) (by kernel_rfl) (by kernel_rfl) (fun _ _ _ h => h) (by rfl) (by assumption) ?_ ?_
      rotate_left
      · intro w hSw; (try dsimp only at hSw); go_simp <;> with_reducible rfl
      try simp only [Act.put, List.setIfInBounds_toArray, List.set_cons_zero, List.set_cons_succ]
      refine takeA (i := 10) (v := ?_) rfl (by kernel_rfl) (by kernel_rfl) (by kernel_rfl) (fun _ _ _ h => h) (by rfl) (by assumption) ?_ ?_
      rotate_left
      · intro w hSw; (try dsimp only at hSw); go_simp <;> with_reducible rfl
      try simp only [Act.put, List.setIfInBounds_toArray, List.set_cons_zero, List.set_cons_succ]
      refine takeA (i := 11) (v := ?_) rfl (by kernel_rfl) (by kernel_rfl) (by kernel_rfl) (fun _ _ _ h => h) (by rfl) (by assumption) ?_ ?_
      rotate_left
      · intro w hSw; (try dsimp only at hSw); go_simp <;> with_reducible rfl
      try simp only [Act.put, List.setIfInBounds_toArray, List.set_cons_zero, List.set_cons_succ]
      refine takeA (i := 12) (v := ?_) rfl (by kernel_rfl) (by kernel_rfl) (by kernel_rfl) (fun _ _ _ h => h) (by rfl) (by assumption) ?_ ?_
      rotate_left
      · intro w hSw; (try dsimp only at hSw); go_simp <;> with_reducible rfl
      try simp only [Act.put, List.setIfInBounds_toArray, List.set_cons_zero, List.set_cons_succ]
      refine takeA (i := 13) (v := ?_) rfl (by kernel_rfl) (by kernel_rfl) (by kernel_rfl) (fun _ _ _ h => h) (by rfl) (by assumption) ?_ ?_
      rotate_left
      · intro w hSw; (try dsimp only at hSw); go_simp <;> with_reducible rfl
      try simp only [Act.put, List.setIfInBounds_toArray, List.set_cons_zero, List.set_cons_succ]
      refine stepA (i := 14) rfl (by kernel_rfl) (fun K0 hK0 => ?_)
      go_simp
      refine DDd.out.mono ?_
      rintro e w3 ⟨hb3, rfl⟩
      have B3 := Bd.next hb3
      have l1 := Bd.below.size
      have hS3 := And.intro (And.intro (bkA B3.one) ((hb3.cell (p := ad.add k) (by rw [addr_block]; omega)).trans hcd.1)) ((hb3.cell (p := ads.add y) (World.block_lt_of_cell? _ _ hcd.2)).trans hcd.2)
      dsimp only
      refine hK0.out _ _ hS3 (fun hS2 => ?_)
      clear hK0 K0 hS DD DDd hb3 Bd hS3 hcd
      try simp only [Act.put, List.setIfInBounds_toArray, List.set_cons_zero, List.set_cons_succ]
      refine takeA (i := 15) (v := ?_) rfl (by kernel_rfl) (by kernel_rfl) (by kernel_rfl) (fun _ _ _ h => h) (by rfl) (by assumption) ?_ ?_
      rotate_left
      · intro w hSw; (try dsimp only at hSw); go_simp <;> with_reducible rfl
      try simp only [Act.put, List.setIfInBounds_toArray, List.set_cons_zero, List.set_cons_succ]
      refine wpAnyH_done (by kernel_rfl) ?_ _
      clear hS2
      cases q
      · have hR := HBD.out rfl
        injection hR with r1 r2
        subst r1
        subst r2
        obtain ⟨d0, d1⟩ := bkA B3.two
        have f0 := B3.two.frozen 0
        have f1 := B3.two.frozen 1
        have hb := B3.below
        clear HBD HNX B3
        go_wp2
        refine bodyPost_ret (v := .tuple #[.agg #[.slice none 0 0, .slice none 0 0], .int .i64 2]) (by simp [results, Tryz.results58, go_sem, d0, d1]) rfl ?_
        exact ⟨(hb.setCell (p := ⟨w.heap.size + 1, 0, none⟩) (by simp) _).setCell (p := ⟨w.heap.size + 1, 1, none⟩) (by simp) _, _, rfl, IsA.zero _ _⟩
      · have HN2 := Lib.hid (HNX.out rfl)
        clear HBD HNX
        go_wp2
        go_roundw
        case rel => exact ⟨k + 1, by omega, by go_num, HN2.out, B3⟩
        case measure => simp [intOf]; omega
    · obtain rfl : k = n := by omega
      have HAD : Hid (∀ g ∈ G, Dist g N) := fun g hg => HD.out g (by rw [HNG.out, List.take_length]; exact hg)
      clear HD HBAD
      obtain ⟨b0, b1⟩ := bkA B.one
      go_wp2_with fail
      refine (WO.out wr B.below).mono ?_
      rintro e w2 ⟨hb2, g9, c9, rfl, hown⟩
      have B2 := B.next hb2
      have hI := IsI.of_own hown
      have hb3 := below_alloc w2 (.cells #[.slice (some ⟨g9, 0, none⟩) S.length c9, .slice none 0 0] 25)
      have B3 := B2.next hb3
      have hI3 := hI.next hb3
      have l1 := B2.one.lt
      have l2 := B2.two.lt
      have ko := Bk.new w2 25 #[Value.slice (some ⟨g9, 0, none⟩) S.length c9, .slice none 0 0]
      have M0 := AppAt.start (w := w) (ob := w2.heap.size) (ks := [(w.heap.size, 25, #[.slice A S.length c, .slice A' V.length c']), (w.heap.size + 1, 25, #[.slice none 0 0, .slice none 0 0])]) B3.below B3.keep ko hI3 B2.below.size (fun p hp => by
        simp at hp
        rcases hp with rfl | rfl
        · show w.heap.size ≠ w2.heap.size; simp only at l1; omega
        · show w.heap.size + 1 ≠ w2.heap.size; simp only at l2; omega)
      have SH := Lib.hid (VSH.out _ _ (some ⟨g9, 0, none⟩) c9 hI3.rd)
      obtain ⟨o0, o1⟩ := bkA ko
      clear hown hI hI3 hb3 hb2 B B2 WO b0 b1 l1 l2 ko VSH
      go_wp2_with fail
      generalize w2.alloc (.cells #[.slice (some ⟨g9, 0, none⟩) S.length c9, .slice none 0 0] 25) = w4 at *
      generalize w2.heap.size = ob at *
      refine SH.out.mono ?_
      rintro e w' ⟨rfl, rfl⟩
      clear SH o0 o1
      cases hqv : qv
      · have hno : ¬ VS (S.set y (k : Int)) := fun h => by rw [HQV.out.2 h] at hqv; cases hqv
        have hR := HSH.out HAD.out hno
        injection hR with r1 r2
        subst r1
        subst r2
        obtain ⟨d0, d1⟩ := bkA B3.two
        have f0 := B3.two.frozen 0
        have f1 := B3.two.frozen 1
        have hb := B3.below
        clear HOK HSH HQV hqv hno M0 AL RD CC IX HP4 HF HIL B3 WI HIY HAD
        go_wp2
        refine bodyPost_ret (v := .tuple #[.agg #[.slice none 0 0, .slice none 0 0], .int .i64 60]) (by simp [results, Tryz.results58, go_sem, d0, d1]) rfl ?_
        exact ⟨(hb.setCell (p := ⟨w.heap.size + 1, 0, none⟩) (by simp) _).setCell (p := ⟨w.heap.size + 1, 1, none⟩) (by simp) _, _, rfl, IsA.zero _ _⟩
      have hvs := HQV.out.1 hqv
      have hR := HOK.out HAD.out hvs
      injection hR with r1 r2
      subst r2
      have HRA := Lib.hid r1
      have hp4 := HP4.out hvs
      have CC2 := Lib.hid (CC.out hvs)
      have IX2 := Lib.hid (IX.out hvs)
      obtain ⟨NN, hNN⟩ : ∃ m, m = Ix.prod PS := ⟨_, rfl⟩
      rw [← hNN] at HRA hp4 CC2 IX2 AL HIY
      have RDD := Lib.hid (fun W j i hi u hu => RD.out W j i HAD.out hi u hu)
      clear r1 HOK HSH HQV hqv HP4 CC IX B3 hNN hvs RD
      go_wp2_with fail
      go_loopw [13] (fun i wr => ∃ (j : Nat) (x : Value), j ≤ NN ∧ i = .int .i64 j ∧ AppAt w w4.heap.size ob [(w.heap.size, 25, #[.slice A S.length c, .slice A' V.length c']), (w.heap.size + 1, 25, #[.slice none 0 0, .slice none 0 0])] (.slice (some ⟨g9, 0, none⟩) S.length c9) (S.set y (k : Int)) x ((List.range j).map f) wr) (fun i _ => NN - (intOf i).toNat)
      case atStart => exact ⟨0, _, Nat.zero_le _, rfl, M0⟩
      case round =>
        clear M0
        obtain ⟨j, x, hj, rfl, M⟩ := hrel
        obtain ⟨xA, xc, rfl⟩ := own_formV M.own
        rw [map_len] at M
        obtain ⟨o0, o1⟩ := bkA M.box
        have hsr := (M.shape.more M.size).rd
        have CC3 := Lib.hid (CC2.out wr _ (some ⟨g9, 0, none⟩) c9 hsr)
        go_wp2_with fail
        refine CC3.out.mono ?_
        rintro e w' ⟨rfl, rfl⟩
        clear CC3
        by_cases hlt : j < NN
        · have HFK := Lib.hid (HF.out j)
          have hilk := HIL.out j
          have hiy := HIY.out j hlt
          have ALk := Lib.hid (fun W hW vI hI => AL.out W hW j hlt vI hI)
          have WIk := Lib.hid (fun W A1 c1 hr => WI.out W j A1 c1 hr)
          have RDk := Lib.hid (fun W i hi u hu => RDD.out W j i hi u hu)
          have IXk := Lib.hid (IX2.out wr (some ⟨g9, 0, none⟩) c9 hsr j hlt)
          generalize idx PS j = J at *
          rw [hilk] at WIk
          clear AL RDD HF HIL IX2 CC2 hsr WI HIY
          go_wp2_with fail
          refine IXk.out.mono ?_
          rintro e w5 ⟨hb5, rfl, hX5⟩
          have M5 := M.next hb5
          clear M o0 o1 IXk hb5
          generalize wr.heap.size = xb at *
          have KA := M5.keep (w.heap.size, 25, #[.slice A S.length c, .slice A' V.length c']) (by simp)
          obtain ⟨a0, a1⟩ := bkA KA
          have hRX : Rd w5.drew w5.drew.heap.size (some ⟨xb, 0, none⟩) (zints (J.map Int.ofNat)) := by
            have := hX5.rd
            rw [zints_nat]; exact this
          have WI5 := Lib.hid (WIk.out w5.drew (some ⟨xb, 0, none⟩) S.length hRX)
          go_wp2_with fail
          refine wp_region_held_drew (S := fun Y => Y.cell? ⟨w.heap.size, 0, none⟩ = some (.slice A S.length c) ∧ Y.cell? ⟨w.heap.size, 1, none⟩ = some (.slice A' V.length c')) (by kernel_rfl) ⟨a0, a1⟩ (fun hS => ?_)
          clear a0 a1 hRX KA
          have Md := M5.drew
          have hXd := hX5.drew
          clear M5 hX5
          generalize w5.drew = wd at *
          refine takeA (i := 0) (v := ?_) rfl (by kernel_rfl) (by kernel_rfl) (by kernel_rfl) (fun _ _ _ h => h) (by rfl) (by assumption) ?_ ?_
          rotate_left
          · intro w hSw; (try dsimp only at hSw); go_simp <;> with_reducible rfl
          try simp only [Act.put, List.setIfInBounds_toArray, List.set_cons_zero, List.set_cons_succ]
          refine takeA (i := 1) (v := ?_) rfl (by kernel_rfl) (by kernel_rfl) (by kernel_rfl) (fun _ _ _ h => h) (by rfl) (by assumption) ?_ ?_
          rotate_left
          · intro w hSw; (try dsimp only at hSw); go_simp <;> with_reducible rfl
          try simp only [Act.put, List.setIfInBounds_toArray, List.set_cons_zero, List.set_cons_succ]
          refine takeA (i := 2) (v := ?_) rfl (by kernel_rfl) (by kernel_rfl) (by kernel_rfl) (fun _ _ _ h => h) (by rfl) (by assumption) ?_ ?_
          rotate_left
          · intro w hSw; (try dsimp only at hSw); go_simp <;> with_reducible rfl
          try simp only [Act.put, List.setIfInBounds_toArray, List.set_cons_zero, List.set_cons_succ]
          refine takeA (i := 3) (v := ?_) rfl (by kernel_rfl) (by kernel_rfl) (by kernel_rfl) (fun _ _ _ h => h) (by rfl) (by assumption) ?_ ?_
          rotate_left
          · intro w hSw; (try dsimp only at hSw); go_simp <;> with_reducible rfl
          try simp only [Act.put, List.setIfInBounds_toArray, List.set_cons_zero, List.set_cons_succ]
          refine stepA (i := 4) rfl (by kernel_rfl) (fun K0 hK0 => ?_)
          go_simp
          refine WI5.out.mono ?_
          rintro e w6 ⟨hb6, g6, k6, rfl, hO6⟩
          have M6 := Md.next hb6
          have hX6 := hXd.next' hb6
          have hI6 := IsI.of_own hO6
          have KA := M6.keep (w.heap.size, 25, #[.slice A S.length c, .slice A' V.length c']) (by simp)
          have AL6 := Lib.hid (ALk.out w6 M6.below _ hI6)
          dsimp only
          refine hK0.out _ _ (bkA KA) (fun hS2 => ?_)
          clear hK0 K0 hS WI5 WIk hO6 hb6 Md hXd hI6 KA ALk
          try simp only [Act.put, List.setIfInBounds_toArray, List.set_cons_zero, List.set_cons_succ]
          refine stepA (i := 5) rfl (by kernel_rfl) (fun K0 hK0 => ?_)
          go_simp
          refine AL6.out.mono ?_
          rintro e w7 ⟨hb7, u, rfl, hu⟩
          have M7 := M6.next hb7
          have hX7 := hX6.next' hb7
          have KA := M7.keep (w.heap.size, 25, #[.slice A S.length c, .slice A' V.length c']) (by simp)
          obtain ⟨Au, cu, hue, -⟩ := hu.form
          rw [alV_len, List.length_range] at hue
          subst hue
          dsimp only
          refine hK0.out _ _ (bkA KA) (fun hS3 => ?_)
          clear hK0 K0 hS2 AL6 hb7 M6 hX6 KA
          try simp only [Act.put, List.setIfInBounds_toArray, List.set_cons_zero, List.set_cons_succ]
          refine takeA (i := 6) (v := ?_) rfl (by kernel_rfl) (by kernel_rfl) (by kernel_rfl) (fun _ _ _ h => h) (by rfl) (by assumption) ?_ ?_
          rotate_left
          · intro w hSw; (try dsimp only at hSw); go_simp <;> with_reducible rfl
          try simp only [Act.put, List.setIfInBounds_toArray, List.set_cons_zero, List.set_cons_succ]
          refine wpAnyH_done (by kernel_rfl) ?_ _
          clear hS3
          have hcy := hX7.cell y
          rw [ints_getD .i64 _ (by rw [hilk]; exact hyS)] at hcy
          generalize J.getD y 0 = i at *
          have hig : i < G.length := by rw [← HNG.out]; exact hiy
          obtain ⟨ad, A2, c2, rfl, q2, q3, q4⟩ := HGA.out i hig
          obtain ⟨p1, p2, p3⟩ := grp_pos HAD.out hig
          have hpl : G[i].length = (grp G i).length := by rw [← p3, List.length_map]
          rw [hpl] at q3 q4
          rw [← p3] at q4
          have hc7 := (M7.below.cell (p := ad.add i) (by rw [addr_block]; exact q2)).trans q3
          have RDi := Lib.hid (fun W u hu => RDk.out W i hiy u hu)
          have HP1 := Lib.hid p1
          have HPE := Lib.hid (fun W (hW : Below w.heap.size w W) m (hm : m < (grp G i).length) => show ∃ ad, A2 = some ad ∧ W.cell? (ad.add m) = some (.int .i64 (((grp G i)[m] : Nat) : Int)) from by
            obtain ⟨ad, e1, e2, e3⟩ := q4.rd.zint (j := m) (by rw [List.length_map]; exact hm)
            refine ⟨ad, e1, ?_⟩
            have := (hW.cell (p := ad.add m) (World.block_lt_of_cell? _ _ e3)).trans e3
            simpa using this)
          have HUE := Lib.hid (fun W (hW : Below w7.heap.size w7 W) m (hm : m < (grp G i).length) => show ∃ ad, Au = some ad ∧ W.cell? (ad.add (grp G i)[m]) = some (.string (V.getD (place (S.map Int.toNat) (J.set y (grp G i)[m])) ⟨#[]⟩)) from by
            obtain ⟨ad, e1, e2, e3⟩ := hu.rd.str (j := (grp G i)[m]) (by rw [alV_len, List.length_range]; exact p1 _ (List.getElem_mem hm))
            refine ⟨ad, e1, ?_⟩
            rw [alV_sub p1 hm] at e3
            exact (hW.cell (p := ad.add _) (World.block_lt_of_cell? _ _ e3)).trans e3)
          have HNX := Lib.hid (fun m (hm : m < (grp G i).length) => alV_next (S := S.map Int.toNat) (V := V) (x := y) (I := J) hm)
          have HALL : Hid ((alV (S.map Int.toNat) V y J (grp G i)).take (grp G i).length = alV (S.map Int.toNat) V y J (grp G i)) := List.take_of_length_le (by rw [alV_len]; exact Nat.le_refl _)
          have j0 : (0 : Int) ≤ (i : Int) := by omega
          have j1 : (i : Int) < (k : Int) := by omega
          have hpsl : (grp G i).length ≤ 1024 := by omega
          clear p1 p2 p3 hpl q2 q3 q4 hu RDk hig hX7
          generalize alV (S.map Int.toNat) V y J (grp G i) = AL at *
          generalize grp G i = ps at *
          go_wp2_with fail
          go_loopw [16, 87] (fun v m wq => ∃ t : Nat, t ≤ ps.length ∧ m = .int .i64 t ∧ wq.ownsRow w7.heap.size 9 1 v t (strs (AL.take t)) ∧ Below w7.heap.size w7 wq) (fun _ m _ => ps.length - (intOf m).toNat)
          case atStart => exact ⟨0, Nat.zero_le _, rfl, World.ownsRow_nil _ _ _ _, Below.refl _ _⟩
          case round =>
            obtain ⟨t, ht, rfl, hO, hC⟩ := hrel
            have hB := M7.below.trans (hC.mono M7.below.size)
            by_cases hlt2 : t < ps.length
            · obtain ⟨adp, rfl, hcp⟩ := HPE.out wr hB t hlt2
              obtain ⟨adu, rfl, hcu⟩ := HUE.out wr hC t hlt2
              have HN := Lib.hid (HNX.out t hlt2)
              have hpN := HP1.out _ (List.getElem_mem hlt2)
              generalize ps[t] = p at *
              generalize V.getD (place (S.map Int.toNat) (J.set y p)) ⟨#[]⟩ = tx at *
              have m0 : (0 : Int) ≤ (p : Int) := by omega
              have m1 : (p : Int) < (N : Int) := by omega
              have HOA := Lib.hid (hO.alloc (.cells #[.string tx] 9))
              have hz := hC.size
              clear hO
              go_wp2_with (at_builtin; go_loud (refine wpL_append _ rfl (.tmp 91) (.tmp 96) _ rfl w7.heap.size 9 i0 _ 1 16 Tryz.underlying23 hi0 hz0 hz1 hz2 rfl (by omega) _ t _ rfl HOA.out _ 1 1 [.string tx] rfl rfl (Rd.of_new wr [.string tx] 9) (strs_one [tx]) (by unfold maxLen; omega) (by omega) (by simp only [World.size_alloc]; omega) ?_; intro v1 w8 hown2 hg1 hat1; have hC2 := below_app (hC.alloc hz _) hg1 (by simp only [World.size_alloc]; omega) HOA.out (Nat.le_refl _); clear hg1 hat1))
              have HO2 : Hid (w8.ownsRow w7.heap.size 9 1 v1 (t + 1) (strs (AL.take (t + 1)))) := by
                show w8.ownsRow _ _ _ _ _ _
                rw [HN.out, strs_app]; exact hown2
              clear hown2 HOA HN hC hB
              go_wp2
              go_roundw
              case rel => exact ⟨t + 1, by omega, by go_num, HO2.out, hC2⟩
              case measure => simp [intOf]; omega
            · obtain rfl : t = ps.length := by omega
              rw [HALL.out] at hO
              have hT := IsT.of_own hO
              obtain ⟨vA0, vc0, rfl⟩ := own_formV hO
              have M8 := M7.next hC
              have RD8 := Lib.hid (RDi.out wr.drew _ (show IsT wr.drew wr.drew.heap.size _ _ from hT))
              obtain ⟨b0, b1⟩ := bkA M8.box
              clear hO hT hC hB HUE HPE HNX HALL HP1 RDi M7
              go_wp2_with fail
              refine wp_region_M 8 (by kernel_rfl) (fun Y => Y.cell? ⟨ob, 0, none⟩ = some (.slice (some ⟨g9, 0, none⟩) S.length c9) ∧ Y.cell? ⟨ob, 1, none⟩ = some (.slice xA j xc)) ⟨b0, b1⟩ (fun hS0 => ?_)
              clear b0 b1
              have Md := M8.drew
              clear M8
              refine takeM (i := 0) (v := ?_) rfl (by kernel_rfl) (by decide) (by kernel_rfl) (by kernel_rfl) (by kernel_rfl) (fun _ _ _ h => h) (by rfl) (by assumption) ?_ ?_
              rotate_left
              · intro w hSw; (try dsimp only at hSw); go_simp <;> with_reducible rfl
              try simp only [Act.put, List.setIfInBounds_toArray, List.set_cons_zero, List.set_cons_succ]
              refine takeM (i := 1) (v := ?_) rfl (by kernel_rfl) (by decide) (by kernel_rfl) (by kernel_rfl) (by kernel_rfl) (fun _ _ _ h => h) (by rfl) (by assumption) ?_ ?_
              rotate_left
              · intro w hSw; (try dsimp only at hSw); go_simp <;> with_reducible rfl
              try simp only [Act.put, List.setIfInBounds_toArray, List.set_cons_zero, List.set_cons_succ]
              refine takeM (i := 2) (v := ?_) rfl (by kernel_rfl) (by decide) (by kernel_rfl) (by kernel_rfl) (by kernel_rfl) (fun _ _ _ h => h) (by rfl) (by assumption) ?_ ?_
              rotate_left
              · intro w hSw; (try dsimp only at hSw); go_simp <;> with_reducible rfl
              try simp only [Act.put, List.setIfInBounds_toArray, List.set_cons_zero, List.set_cons_succ]
              refine takeM (i := 3) (v := ?_) rfl (by kernel_rfl) (by decide) (by kernel_rfl) (by kernel_rfl) (by kernel_rfl) (fun _ _ _ h => h) (by rfl) (by assumption) ?_ ?_
              rotate_left
              · intro w hSw; (try dsimp only at hSw); go_simp <;> with_reducible rfl
              try simp only [Act.put, List.setIfInBounds_toArray, List.set_cons_zero, List.set_cons_succ]
              clear hS0
              refine stepM (i := 4) rfl (by kernel_rfl) (fun K0 hK0 => ?_)
              go_simp
              refine RD8.out.mono ?_
              rintro e w9 ⟨hb9, rfl⟩
              rw [← HFK.out]
              have M9 := Md.next hb9
              have hS9 := bkA M9.box
              dsimp only
              refine hK0.out _ _ (fun _ => hS9) (fun _ => ?_)
              clear hK0 K0 Md hb9 RD8 hS9
              try simp only [Act.put, List.setIfInBounds_toArray, List.set_cons_zero, List.set_cons_succ]
              generalize hfk : f j = tx at *
              have HFX := Lib.hid hfk
              clear hfk HFK
              have MA := M9.alloc (.cells #[.string tx] 9)
              have hS8 := bkA MA.box
              refine stepM (i := 5) rfl (by kernel_rfl) (fun K0 hK0 => ?_)
              go_simp
              refine hK0.out _ _ (fun _ => hS8) (fun _ => ?_)
              clear hK0 K0 hS8
              try simp only [Act.put, List.setIfInBounds_toArray, List.set_cons_zero, List.set_cons_succ]
              have hown0 := MA.own
              rw [map_len] at hown0
              refine stepM (i := 6) rfl (by kernel_rfl) (fun K0 hK0 => ?_)
              rw [if_pos (by rfl)]
              refine step_append_own (.tmp 100) (.tmp 104) 23 rfl w4.heap.size 9 i0 (.string ⟨#[]⟩) 1 16 Tryz.underlying23 hi0 hz0 hz1 hz2 rfl (by omega) (.slice xA j xc) j _ (by rfl) hown0 ⟨w9.heap.size, 0, none⟩ 1 1 [.string tx] (by rfl) (by rfl) (new_str w9 _ tx) (strs_one [tx]) (by unfold maxLen; omega) (by omega) MA.size ?_
              intro v1 wB hown1 hg1
              obtain ⟨vA, vc, rfl⟩ := own_formV hown1
              have MM := MA.app (x := tx) (by rw [map_len]; exact hown1) hg1
              clear hown1 hg1 hown0 MA M9
              obtain ⟨g0, g1, gf⟩ := MM.facts
              have hS9 := And.intro g0 g1
              dsimp only
              refine hK0.out _ _ (fun _ => hS9) (fun _ => ?_)
              clear hK0 K0
              try simp only [Act.put, List.setIfInBounds_toArray, List.set_cons_zero, List.set_cons_succ]
              refine takeM (i := 7) (v := ?_) rfl (by kernel_rfl) (by decide) (by kernel_rfl) (by kernel_rfl) (by kernel_rfl) (fun _ _ _ h => h) (by rfl) (by assumption) ?_ ?_
              rotate_left
              · intro w hSw; (try dsimp only at hSw); go_simp <;> with_reducible rfl
              try simp only [Act.put, List.setIfInBounds_toArray, List.set_cons_zero, List.set_cons_succ]
              clear hS9
              refine stepM (i := 8) rfl (by kernel_rfl) (fun K0 hK0 => ?_)
              go_simp
              refine hK0.out _ _ (fun h => absurd rfl h) (fun _ => ?_)
              clear hK0 K0
              try simp only [Act.put, List.setIfInBounds_toArray, List.set_cons_zero, List.set_cons_succ]
              refine doneM (by kernel_rfl) ?_ _
              have MP := MM.put
              have e1 : (List.range j).map f ++ [tx] = (List.range (j + 1)).map f := by rw [map_snoc, HFX.out]
              rw [e1] at MP
              clear MM g0 g1 gf
              go_wp2
              go_roundw
              case rel => exact ⟨j + 1, _, by omega, by go_num, MP⟩
              case measure => simp [intOf]; omega
        · obtain rfl : j = NN := by omega
          have KR := M.keep (w.heap.size + 1, 25, #[.slice none 0 0, .slice none 0 0]) (by simp)
          obtain ⟨d0, d1⟩ := bkA KR
          have f0 := KR.frozen 0
          have f1 := KR.frozen 1
          have hA := M.isA
          have hb := M.below
          go_wp2
          refine bodyPost_ret (v := .tuple #[.agg #[.slice (some ⟨g9, 0, none⟩) S.length c9, .slice xA j xc], .int .i64 0]) (by simp [results, Tryz.results58, go_sem, d0, d1]) rfl ?_
          exact ⟨(hb.setCell (p := ⟨w.heap.size + 1, 0, none⟩) (by simp) _).setCell (p := ⟨w.heap.size + 1, 1, none⟩) (by simp) _, _, rfl, by rw [HRA.out]; exact hA.ret d0 d1 _ _⟩
end Go.Proofs.YtgnffedncjjkfaaGreatDoor

namespace Go.Proofs.YtgnffedncjjkfaaGreatDoor
open Go.RowKit Ix Ar

theorem groupR_in {a : Arr} {x red : Int} {G : List (List Int)} (h : InA a) : (groupR a x red G).1.1.length ≤ maxLen ∧ (groupR a x red G).1.2.length ≤ maxLen := by
  by_cases h1 : VA a
  · by_cases h2 : AxOk a x red ∧ ∀ g ∈ G, Dist g ((a.1.map Int.toNat).getD x.toNat 0)
    · by_cases h3 : VS (a.1.set x.toNat (G.length : Int))
      · rw [groupR_ok h1 h2 h3]
        refine ⟨?_, ?_⟩
        · show (a.1.set x.toNat (G.length : Int)).length ≤ maxLen
          rw [List.length_set]; exact h.shape
        · show (alongV _ _ _ _ _ _).length ≤ maxLen
          have := h3.2.2
          rw [List.map_set, Int.toNat_natCast] at this
          rw [along_len]
          unfold maxLen; omega
      · rw [groupR_shape h1 h2 h3]; exact ⟨Nat.zero_le _, Nat.zero_le _⟩
    · rw [groupR_arg h1 h2]; exact ⟨Nat.zero_le _, Nat.zero_le _⟩
  · rw [groupR_bad h1]; exact ⟨Nat.zero_le _, Nat.zero_le _⟩
theorem IsG.one {w : World} {v : Value} {l : List Int} (h : IsI w w.heap.size v l) : IsG (w.alloc (.cells #[v] 22)) (w.alloc (.cells #[v] 22)).heap.size (.slice (some ⟨w.heap.size, 0, none⟩) 1 1) [l] := by
  refine ⟨_, 1, [v], rfl, Nat.le_refl _, rfl, (Rd.of_new w [v] 22).more (by simp), fun i x hx => ?_⟩
  cases i with
  | zero =>
    simp at hx
    subst hx
    exact ⟨v, rfl, h.next (below_alloc w _)⟩
  | succ i => simp at hx

set_option maxRecDepth 100000 in
set_option maxHeartbeats 6400000 in
theorem groups_walk (a : Arr) (x red : Int) (G : List (List Int)) (A A' Ag : Option Addr) (c c' cg : Nat) (w : World) (ha : IsA w w.heap.size (.agg #[.slice A a.1.length c, .slice A' a.2.length c']) a) (hG : IsG w w.heap.size (.slice Ag G.length cg) G) (hL : a.1.length ≤ maxLen) (hM : a.2.length ≤ maxLen)
    (_ : -9223372036854775808 ≤ x) (_ : x ≤ 9223372036854775807) (_ : -9223372036854775808 ≤ red) (_ : red ≤ 9223372036854775807) (hGl : G.length ≤ maxLen) (hgl : ∀ g ∈ G, g.length ≤ maxLen) (he : Env w) (her : EnvR w) :
    Calls Tryz.prog 14 #[.agg #[.slice A a.1.length c, .slice A' a.2.length c', .int .i64 x, .int .i64 red, .slice Ag G.length cg]] w fun r w' => Below w.heap.size w w' ∧ r = .returned (.bool true) := by
  obtain ⟨q, hq⟩ : ∃ b : Bool, b = true ↔ ¬ Slim a := by classical exact ⟨decide _, decide_eq_true_iff⟩
  have WD := Lib.hid (fun W (hW : Below w.heap.size w W) => wide_any a _ W (ha.next hW) hL hM q hq)
  have SN := Lib.hid (fun W (hW : Below w.heap.size w W) => sane_any W (he.next hW))
  obtain ⟨i0, hi0, hz0, hz1, hz2⟩ := info_parts Tryz.int_info
  have hha := ha
  obtain ⟨S, V⟩ := a
  simp only at hL hM
  have B0 : BxW w [(w.heap.size, 76, #[.slice A S.length c, .slice A' V.length c', .int .i64 x, .int .i64 red, .slice Ag G.length cg])] (w.alloc (.cells #[.slice A S.length c, .slice A' V.length c', .int .i64 x, .int .i64 red, .slice Ag G.length cg] 76)) := (BxW.nil w).new _ _
  have C5 := Lib.hid (fun (W : World) (k : Bk W w.heap.size 76 #[.slice A S.length c, .slice A' V.length c', .int .i64 x, .int .i64 red, .slice Ag G.length cg]) => show W.cell? ⟨w.heap.size, 0, none⟩ = some (.slice A S.length c) ∧ W.cell? ⟨w.heap.size, 1, none⟩ = some (.slice A' V.length c') ∧ W.cell? ⟨w.heap.size, 2, none⟩ = some (.int .i64 x) ∧ W.cell? ⟨w.heap.size, 3, none⟩ = some (.int .i64 red) ∧ W.cell? ⟨w.heap.size, 4, none⟩ = some (.slice Ag G.length cg) from ⟨k.cell 0, k.cell 1, k.cell 2, k.cell 3, k.cell 4⟩)
  unfold maxLen at hGl
  cases q
  rotate_left
  · clear hq ha hha he her hG
    go_enter Tryz.func14, Tryz.ntmps14
    obtain ⟨b0, b1, b2, b3, b4⟩ := C5.out _ B0.one
    go_wp2_with fail
    generalize w.alloc (.cells #[.slice A S.length c, .slice A' V.length c', .int .i64 x, .int .i64 red, .slice Ag G.length cg] 76) = W0 at *
    refine (WD.out W0 B0.below).mono ?_
    rintro r w1 ⟨hb1, rfl⟩
    have B1 := B0.next hb1
    go_wp2_with fail
    refine (SN.out w1 B1.below).mono ?_
    rintro r w2 ⟨hb2, rfl⟩
    go_wp2
    go_ret
    exact ⟨(B1.next hb2).below, rfl⟩
  by_cases hgw : 60 < G.length
  · clear hq ha hha he her hG
    have h60 : (60 : Int) < (G.length : Int) := by omega
    go_enter Tryz.func14, Tryz.ntmps14
    obtain ⟨b0, b1, b2, b3, b4⟩ := C5.out _ B0.one
    go_wp2_with fail
    generalize w.alloc (.cells #[.slice A S.length c, .slice A' V.length c', .int .i64 x, .int .i64 red, .slice Ag G.length cg] 76) = W0 at *
    refine (WD.out W0 B0.below).mono ?_
    rintro r w1 ⟨hb1, rfl⟩
    have B1 := B0.next hb1
    clear b0 b1 b2 b3 b4
    obtain ⟨b0, b1, b2, b3, b4⟩ := C5.out _ B1.one
    go_wp2_with fail
    refine (SN.out w1 B1.below).mono ?_
    rintro r w2 ⟨hb2, rfl⟩
    go_wp2
    go_ret
    exact ⟨(B1.next hb2).below, rfl⟩
  have hs : Slim (S, V) := by
    apply Classical.byContradiction
    intro h'
    have := hq.2 h'
    cases this
  obtain ⟨-, hl1, hl2⟩ := hs
  simp only at hl1 hl2
  have hi : InA (S, V) := ⟨hL, by show V.length ≤ _; omega, fun s hs => by have := hl2 s hs; omega⟩
  have F1 := Lib.hid (fun W (hW : Below w.heap.size w W) => group_any (S, V) x red G _ _ W (hha.next hW) (hG.next hW) hi (he.next hW) (her.next hW) (by show V.length ≤ 5000; omega) (by omega) hgl)
  have F2 := Lib.hid (fun W (hW : Below w.heap.size w W) => rgroup_any (S, V) x red G _ _ W (hha.next hW) (hG.next hW) hi (by show V.length ≤ 5000; omega) (by omega) hgl)
  have F3 := Lib.hid (fun W (hW : Below w.heap.size w W) => preduce_any (S, V) x red _ W (hha.next hW) hi (he.next hW) (her.next hW) (by show V.length ≤ 5000; omega))
  have F4 := Lib.hid (fun W (hW : Below w.heap.size w W) vg l (hg : IsG W W.heap.size vg [l]) (hl : l.length ≤ maxLen) => group_any (S, V) x red [l] _ vg W (hha.next hW) hg hi (he.next hW) (her.next hW) (by show V.length ≤ 5000; omega) (by simp) (fun g h' => by rw [List.mem_singleton] at h'; rw [h']; exact hl))
  have HLW := Lib.hid (group_all (a := (S, V)) (x := x) (red := red))
  have hRi := groupR_in (x := x) (red := red) (G := G) hi
  have hTi := (reduceR_in (x := x) (red := red) hi).2
  have HGA := Lib.hid (fun k (hk : k < G.length) => show ∃ ad A2 c2, Ag = some ad ∧ ad.block < w.heap.size ∧ w.cell? (ad.add k) = some (.slice A2 G[k].length c2) ∧ IsI w w.heap.size (.slice A2 G[k].length c2) G[k] from by
    obtain ⟨ad, A2, c2, e1, e2, e3, e4⟩ := hG.at (List.getElem?_eq_getElem hk)
    exact ⟨ad, A2, c2, e1, e2, e3, e4⟩)
  have HX := Lib.hid (fun (h : (reduceR (S, V) x red).2 = 0) => show ∃ y N : Nat, x = (y : Int) ∧ y < S.length ∧ N = (S.map Int.toNat).getD y 0 ∧ N ≤ 1024 ∧ ∀ W, Below w.heap.size w W → ∃ ad, A = some ad ∧ W.cell? (ad.add y) = some (.int .i64 (N : Int)) from by
    obtain ⟨h1, h2, -⟩ := reduceR_err h
    obtain ⟨⟨p1, p2⟩, -⟩ := h2
    simp only at p2
    have hSm : (S.map Int.toNat).length = S.length := List.length_map _
    have hVS : VS S := h1.1
    obtain ⟨y, rfl⟩ : ∃ y : Nat, x = (y : Int) := ⟨x.toNat, by omega⟩
    have hyS : y < S.length := by omega
    have hm := hVS.2.1 _ (List.getElem_mem hyS)
    have hN : (S.map Int.toNat).getD y 0 = S[y].toNat := by rw [getD_in (by rw [hSm]; exact hyS), List.getElem_map]
    refine ⟨y, _, rfl, hyS, rfl, by omega, fun W hW => ?_⟩
    obtain ⟨ad, e1, e2, e3⟩ := (ha.parts.1.rd.below hW).zint hyS
    exact ⟨ad, e1, by rw [e3, hN, Int.toNat_of_nonneg hm.1]⟩)
  generalize groupR (S, V) x red G = R at *
  generalize reduceR (S, V) x red = T at *
  obtain ⟨R1, R2⟩ := R
  obtain ⟨⟨T0, T1⟩, T2⟩ := T
  simp only at F1 F2 F3 HLW hRi hTi HX
  have AG := Lib.hid (fun W u v (hu : IsA W W.heap.size u R1) (hv : IsA W W.heap.size v R1) => agrees_any R1 R1 u v R2 R2 W hu hv hRi.1 hRi.2 true (by simp))
  have SM := Lib.hid (fun W u v (hu : IsA W W.heap.size u (([] : List Int), T1)) (hv : IsA W W.heap.size v (([] : List Int), T1)) => same_any ([], T1) ([], T1) u v W hu hv (Nat.zero_le _) hTi true (by simp))
  have hgn : (G.length : Int) ≤ 60 := by omega
  clear hq ha hha he her hi hRi hl2 hG hgl hTi
  go_enter Tryz.func14, Tryz.ntmps14
  obtain ⟨b0, b1, b2, b3, b4⟩ := C5.out _ B0.one
  go_wp2_with fail
  generalize w.alloc (.cells #[.slice A S.length c, .slice A' V.length c', .int .i64 x, .int .i64 red, .slice Ag G.length cg] 76) = W0 at *
  refine (WD.out W0 B0.below).mono ?_
  rintro r w1 ⟨hb1, rfl⟩
  have B1 := B0.next hb1
  clear b0 b1 b2 b3 b4 B0 hb1 WD
  obtain ⟨b0, b1, b2, b3, b4⟩ := C5.out _ B1.one
  go_wp2_with fail
  clear b0 b1 b2 b3 b4
  go_loopw [3] (fun i wr => ∃ k : Nat, k ≤ G.length ∧ i = .int .i64 k ∧ BxW w [(w.heap.size, 76, #[.slice A S.length c, .slice A' V.length c', .int .i64 x, .int .i64 red, .slice Ag G.length cg])] wr) (fun i _ => G.length - (intOf i).toNat)
  case atStart => exact ⟨0, Nat.zero_le _, rfl, B1⟩
  case round =>
    clear B1
    obtain ⟨k, hk, rfl, B⟩ := hrel
    obtain ⟨b0, b1, b2, b3, b4⟩ := C5.out _ B.one
    by_cases hlt : k < G.length
    · obtain ⟨ad, A2, c2, rfl, e2, e3, e4⟩ := HGA.out k hlt
      have hc3 := (B.below.cell (p := ad.add k) (by rw [addr_block]; exact e2)).trans e3
      have i0' : (0 : Int) ≤ (k : Int) := by omega
      have i1' : (k : Int) < (G.length : Int) := by omega
      clear F1 F2 F3 F4 HLW HX AG SM HGA e3 e4
      generalize G[k] = g at *
      by_cases hg6 : 60 < g.length
      · have hg7 : (60 : Int) < (g.length : Int) := by omega
        go_wp2_with fail
        refine (SN.out wr B.below).mono ?_
        rintro r w2 ⟨hb2, rfl⟩
        clear b0 b1 b2 b3 b4 hc3
        go_wp2
        go_ret
        exact ⟨(B.next hb2).below, rfl⟩
      · have hg7 : (g.length : Int) ≤ 60 := by omega
        go_wp2
        go_roundw
        case rel => exact ⟨k + 1, by omega, by go_num, B⟩
        case measure => simp [intOf]; omega
    · obtain rfl : k = G.length := by omega
      clear HGA
      go_wp2_with fail
      refine (F1.out wr B.below).mono ?_
      rintro r w2 ⟨hb2, u, rfl, hu⟩
      obtain ⟨A1, c1, A2, c2, rfl, -, -⟩ := hu.form
      have B2 := (B.next hb2).new 25 #[.slice A1 R1.1.length c1, .slice A2 R1.2.length c2]
      have hu3 := hu.next (below_alloc w2 (.cells #[.slice A1 R1.1.length c1, .slice A2 R1.2.length c2] 25))
      clear b0 b1 b2 b3 b4 B hb2 hu F1
      obtain ⟨b0, b1, b2, b3, b4⟩ := C5.out _ B2.one
      go_wp2_with fail
      generalize w2.alloc (.cells #[.slice A1 R1.1.length c1, .slice A2 R1.2.length c2] 25) = w3 at *
      generalize w2.heap.size = bu at *
      refine (F2.out w3 B2.below).mono ?_
      rintro r w4 ⟨hb4, v, rfl, hv⟩
      obtain ⟨C1, d1, C2, d2, rfl, -, -⟩ := hv.form
      have B4 := (B2.next hb4).new 25 #[.slice C1 R1.1.length d1, .slice C2 R1.2.length d2]
      have ba := below_alloc w4 (.cells #[.slice C1 R1.1.length d1, .slice C2 R1.2.length d2] 25)
      have hu5 := (hu3.next hb4).next ba
      have hv5 := hv.next ba
      clear b0 b1 b2 b3 b4 B2 hb4 hu3 hv ba F2
      obtain ⟨y0, y1⟩ := bkA B4.two
      obtain ⟨z0, z1⟩ := bkA B4.three
      go_wp2_with fail
      generalize w4.alloc (.cells #[.slice C1 R1.1.length d1, .slice C2 R1.2.length d2] 25) = w5 at *
      generalize w4.heap.size = bv at *
      refine (AG.out w5 _ _ hu5 hv5).mono ?_
      rintro r w6 ⟨hb6, rfl⟩
      have B6 := B4.next hb6
      clear y0 y1 z0 z1 B4 hb6 hu5 hv5 AG
      go_wp2_with fail
      refine (SN.out w6 B6.below).mono ?_
      rintro r w7 ⟨hb7, rfl⟩
      have B7 := B6.next hb7
      clear B6 hb7 SN
      obtain ⟨b0, b1, b2, b3, b4⟩ := C5.out _ B7.one
      go_wp2_with fail
      refine (F3.out w7 B7.below).mono ?_
      rintro r w8 ⟨hb8, t, rfl, ht⟩
      obtain ⟨D1, e1, D2, e2, rfl, -, -⟩ := ht.form
      simp only
      have B9 := (B7.next hb8).new 25 #[.slice D1 T0.length e1, .slice D2 T1.length e2]
      have ht9 := ht.next (below_alloc w8 (.cells #[.slice D1 T0.length e1, .slice D2 T1.length e2] 25))
      clear b0 b1 b2 b3 b4 B7 hb8 ht F3
      by_cases hT2 : T2 = 0
      rotate_left
      · have hne : (T2 != 0) = true := by simp [hT2]
        clear hT2 ht9 HLW HX F4 SM
        go_wp2
        go_ret
        exact ⟨B9.below, rfl⟩
      have hne : (T2 != 0) = false := by simp [hT2]
      obtain ⟨y, N, rfl, hyS, hN, hN1, HSC⟩ := HX.out hT2
      have HLL := Lib.hid (HLW.out hT2)
      have HSC := Lib.hid HSC
      have HNN := Lib.hid hN
      have hy1 : (y : Int) < (S.length : Int) := by omega
      have hy0 : (0 : Int) ≤ (y : Int) := by omega
      clear HX HLW hT2 hN
      obtain ⟨b0, b1, b2, b3, b4⟩ := C5.out _ B9.one
      go_wp2_with fail
      generalize w8.alloc (.cells #[.slice D1 T0.length e1, .slice D2 T1.length e2] 25) = W9 at *
      generalize w8.heap.size = bt at *
      clear b0 b1 b2 b3 b4
      go_loopw [10, 11] (fun u i wr => ∃ k : Nat, k ≤ N ∧ i = .int .i64 k ∧ wr.ownsRow W9.heap.size 3 1 u k (zints ((List.range k).map Int.ofNat)) ∧ Below W9.heap.size W9 wr) (fun _ i _ => N - (intOf i).toNat)
      case atStart => exact ⟨0, Nat.zero_le _, rfl, World.ownsRow_nil _ _ _ _, Below.refl _ _⟩
      case round =>
        obtain ⟨k, hk, rfl, hO, hC⟩ := hrel
        have hB := B9.below.trans (hC.mono B9.below.size)
        obtain ⟨b0, b1, b2, b3, b4⟩ := C5.out _ (B9.next hC).one
        obtain ⟨ads, rfl, hcs⟩ := HSC.out wr hB
        by_cases hlt : k < N
        · have HR : Hid (zints ((List.range (k + 1)).map Int.ofNat) = zints ((List.range k).map Int.ofNat) ++ [.int .i64 (k : Int)]) := by
            show _ = _
            rw [List.range_succ, List.map_append, zints_app]; rfl
          have HOA := Lib.hid (hO.alloc (.cells #[.int .i64 (k : Int)] 3))
          have hi1 : (k : Int) < (N : Int) := by omega
          clear hO HLL SM F4 ht9 HNN hB
          go_wp2_with (at_builtin; go_loud (have hz := hC.size; refine wpL_append _ rfl (.tmp 108) (.tmp 110) _ rfl W9.heap.size 3 i0 _ 1 8 Tryz.underlying22 hi0 hz0 hz1 hz2 rfl (by omega) _ k _ rfl HOA.out _ 1 1 [.int .i64 (k : Int)] rfl rfl (Rd.of_new wr [.int .i64 (k : Int)] 3) (zints_one [(k : Int)]) (by unfold maxLen; omega) (by omega) (by simp only [World.size_alloc]; omega) ?_; intro v1 wn hown2 hg1 hat1; have hC2 := below_app (hC.alloc hz _) hg1 (by simp only [World.size_alloc]; omega) HOA.out (Nat.le_refl _); clear hg1 hat1 b0 b1 b2 b3 b4))
          have HO2 : Hid (wn.ownsRow W9.heap.size 3 1 v1 (k + 1) (zints ((List.range (k + 1)).map Int.ofNat))) := by
            show wn.ownsRow _ _ _ _ _ _
            rw [HR.out]; exact hown2
          clear hown2 HOA HR hC
          go_wp2
          go_roundw
          case rel => exact ⟨k + 1, by omega, by go_num, HO2.out, hC2⟩
          case measure => simp [intOf]; omega
        · obtain rfl : k = N := by omega
          have hI := IsI.of_own hO
          obtain ⟨vA, vc, rfl⟩ := own_formV hO
          have GO := Lib.hid (IsG.one hI)
          have hbn := hC.trans ((below_alloc wr (.cells #[.slice vA k vc] 22)).mono hC.size)
          have ht10 := ht9.next hbn
          have B10 := B9.next hbn
          have hyl : ((List.range k).map Int.ofNat).length ≤ maxLen := by rw [List.length_map, List.length_range]; unfold maxLen; omega
          have F5 := Lib.hid (fun W hW vg hg => F4.out W hW vg _ hg hyl)
          have HL5 := HLL.out ((List.range k).map Int.ofNat) (by rw [HNN.out, Int.toNat_natCast])
          rw [HL5] at F5
          clear hO hI F4 HLL HL5 hyl ht9 B9
          go_wp2_with fail
          generalize wr.alloc (.cells #[.slice vA k vc] 22) = W10 at *
          refine (F5.out W10 B10.below _ GO.out).mono ?_
          rintro r w11 ⟨hb11, p, rfl, hp⟩
          have hpf := hp.form
          simp only [List.length_set, Int.toNat_natCast] at hpf
          obtain ⟨G1, g1, G2, g2, rfl, -, -⟩ := hpf
          have B11 := (B10.next hb11).new 25 #[.slice G1 S.length g1, .slice G2 T1.length g2]
          have ba := below_alloc w11 (.cells #[.slice G1 S.length g1, .slice G2 T1.length g2] 25)
          have ht11 := (ht10.next hb11).next ba
          have hp11 := hp.next ba
          obtain ⟨adg, rfl, -, hcg⟩ := (hp11.parts.1.rd).zint (j := y) (by simp only [List.length_set]; exact hyS)
          have hcg1 : (w11.alloc (.cells #[.slice (some adg) S.length g1, .slice G2 T1.length g2] 25)).cell? (adg.add y) = some (.int .i64 1) := by
            rw [hcg]; simp
          have hll : ((T1.length : Int) != (T1.length : Int)) = false := by simp
          have SS := Lib.hid (SM.out _ _ _ ⟨_, _, rfl, IsI.nil _ _, ht11.parts.2⟩ ⟨_, _, rfl, IsI.nil _ _, hp11.parts.2⟩)
          clear b0 b1 b2 b3 b4 hcs
          obtain ⟨b0, b1, b2, b3, b4⟩ := C5.out _ B11.one
          obtain ⟨t0, t1⟩ := bkA B11.four
          obtain ⟨p0, p1⟩ := bkA B11.five
          clear hcg hp11 ht11 hp ht10 B10 ba F5 GO SM
          go_wp2_with fail
          refine SS.out.mono ?_
          rintro r w12 ⟨hb12, rfl⟩
          clear b0 b1 b2 b3 b4 t0 t1 p0 p1 SS
          go_wp2
          go_ret
          exact ⟨(B11.next hb12).below, rfl⟩
end Go.Proofs.YtgnffedncjjkfaaGreatDoor

namespace Go.Proofs.YtgnffedncjjkfaaGreatDoor.fnGroups
open Go.ChangeShapes Go.WideShapes Go.ChangeAt Go.RowKit Go.Proofs.YtgnffedncjjkfaaGreatDoor

theorem cellsS : Tryz.prog.cellsOf 76 = 5 := by kernel_rfl
theorem split_of {cs : Array Value} (h : cs.size = 5) : ∃ b0 b1 b2 b3 b4, cs = #[b0, b1, b2, b3, b4] := by
  obtain ⟨l⟩ := cs
  match l, h with
  | [b0, b1, b2, b3, b4], _ => exact ⟨b0, b1, b2, b3, b4, rfl⟩
theorem cellsG : Tryz.prog.cellsOf 47 = 1 := by kernel_rfl
section
variable {H : Type} {enc : TypeId × Value → H}
set_option maxRecDepth 100000 in
/-- A list of lists of numbers, nil or not. -/
theorem opened_lists {W : World} {fuel : Nat} {a : Value} {x : DataW H × List MemPlace} (h : DataW.trod enc Tryz.prog W 0 (fun _ => true) true fuel 47 [a] = some x) :
    ∃ L : List (List Int), IsG W W.heap.size a L ∧ L.length ≤ maxLen ∧ ∀ l ∈ L, l.length ≤ maxLen := by
  rcases Go.Deep.open_slice Tryz.underlying47 h with ⟨hcs, _⟩ | ⟨ad, len, cap, m, n, D, Pl, hcs, _, hl, hm, hmm, _, hc⟩
  · simp only [List.cons.injEq, and_true] at hcs
    subst hcs
    exact ⟨[], IsG.nil _ _, Nat.zero_le _, fun s hs => by cases hs⟩
  · simp only [List.cons.injEq, and_true] at hcs
    subst hcs
    simp only [if_true] at hmm
    subst hmm
    have each : ∀ i, i < m → ∃ p : Value × List Int, W.cell? (ad.add i) = some p.1 ∧ IsI W W.heap.size p.1 p.2 ∧ p.2.length ≤ maxLen := fun i hi => by
      obtain ⟨cs', h1, h2⟩ := hc i hi
      rw [Tryz.cellsInts] at h1
      obtain ⟨_, hlen, hcell⟩ := World.cells?_some h1
      match cs', hlen with
      | [v0], _ =>
        obtain ⟨S, hS, hl, _⟩ := opened_zints h2
        have c0 := hcell 0 (by omega)
        rw [Go.Deep.add_add] at c0
        exact ⟨(v0, S), by simpa using c0, hS, hl⟩
    obtain ⟨f, hf⟩ := Go.Deep.choose_lt each
    have hlen : ((List.range len).map fun i => (f i).2).length = len := by simp
    refine ⟨(List.range len).map fun i => (f i).2, ⟨some ad, m, (List.range len).map fun i => (f i).1, by rw [hlen], by rw [hlen]; exact hl, by simp, ?_, fun i y hy => ?_⟩, by rw [hlen]; omega, fun y hy => ?_⟩
    · rcases Nat.eq_zero_or_pos len with h0 | h0
      · subst h0
        exact fun hn => absurd rfl hn
      · have hblk := World.block_lt_of_cell? _ _ (hf 0 (by omega)).1
        rw [addr_block] at hblk
        refine fun _ => ⟨ad, rfl, hblk, fun j u hu => ?_⟩
        have hj : j < len := by
          have := (List.getElem?_eq_some_iff.1 hu).1
          simpa using this
        rw [List.getElem?_map, List.getElem?_range hj] at hu
        simp only [Option.map_some, Option.some.injEq] at hu
        subst hu
        exact (hf j (by omega)).1
    · have hi : i < len := by
        have := (List.getElem?_eq_some_iff.1 hy).1
        simpa using this
      rw [List.getElem?_map, List.getElem?_range hi] at hy
      simp only [Option.map_some, Option.some.injEq] at hy
      subst hy
      exact ⟨(f i).1, by rw [List.getElem?_map, List.getElem?_range hi]; rfl, (hf i (by omega)).2.1⟩
    · obtain ⟨i, hi, rfl⟩ := List.mem_map.1 hy
      exact (hf i (by have := List.mem_range.1 hi; omega)).2.2
end
set_option maxRecDepth 100000 in
theorem contract (H : Type) (enc : TypeId × Value → H) (W : World) (base : Nat) (args : Array Value) (ds gs : List (DataW H)) (before : List MemPlace)
    (hval : ∀ (j : Nat) t v, Tryz.f14.params[j]? = some t → args[j]? = some v → Value.okWide Tryz.prog W .any base t v)
    (hW : DataW.Whole enc Tryz.prog Tryz.f14.params.toList Rows.arrayGroupsSpec.vars false W args.toList ds gs before) (hL : laidMetH Tryz.prog Rows.arrayGroupsRow.laid W) (hsh : W.ShapedOpen Tryz.prog) :
    Calls Tryz.prog 14 args W fun e W' => ∃ v, e = .returned v ∧ Rows.arrayGroupsSpec.post enc Tryz.prog Tryz.f14 false true false false W args v W' := by
  obtain ⟨he, her⟩ := env_of hL hsh
  have hW' := hW
  obtain ⟨p, q, hA0, hV, rfl, hfz, hnd⟩ := hW
  have hA : DataW.TrodAll enc Tryz.prog W 0 (fun _ => true) true Tryz.f14.params.toList args.toList ds p := hA0
  rw [Tryz.params14] at hA hval
  obtain ⟨v0, d0, rfl, rfl, h0⟩ := trodAll_one hA
  obtain ⟨rfl, rfl⟩ := trodVars_none hV
  obtain ⟨cs, rfl, hcs⟩ := okWide_struct Tryz.underlying76 (hval 0 76 v0 rfl rfl)
  rw [cellsS] at hcs
  obtain ⟨b0, b1, b2, b3, b4, rfl⟩ := split_of hcs
  obtain ⟨fuel, hf⟩ := h0
  obtain ⟨y0, y1, y2, y3, n, _, _, g0, g1, g2, g3⟩ := Go.Joins.trod_struct4 Tryz.underlying76 hf
  simp only [Tryz.cellsArr, Tryz.cellsInt, cellsG, Value.cells, List.drop_zero, List.take_succ_cons, List.take_zero, List.drop_succ_cons] at g0 g1 g2 g3
  obtain ⟨x0, i0, l0, m0, w0⟩ := opened_arr2 g0
  obtain ⟨A0, c0, B0, d0, e0, -, -⟩ := i0.form
  simp only [Value.agg.injEq, Array.mk.injEq, List.cons.injEq, and_true] at e0
  obtain ⟨rfl, rfl⟩ := e0
  obtain ⟨n1, f1, _, q1⟩ := DataW.trod_int Tryz.underlying3 g1
  simp only [List.cons.injEq, and_true] at f1
  subst f1
  obtain ⟨n2, f2, _, q2⟩ := DataW.trod_int Tryz.underlying3 g2
  simp only [List.cons.injEq, and_true] at f2
  subst f2
  obtain ⟨x3, i3, l3, w3⟩ := opened_lists g3
  obtain ⟨A3, c3, rfl⟩ := i3.form
  refine (groups_walk x0 n1 n2 x3 A0 B0 A3 c0 d0 c3 W i0 i3 l0 m0 (in64_cut q1).1 (in64_cut q1).2 (in64_cut q2).1 (in64_cut q2).2 l3 w3 he her).mono fun e W' ⟨hb, e1⟩ => ?_
  subst e1
  exact ⟨_, rfl, law_post (by kernel_rfl) rfl (by rw [Tryz.params14]; intro t ht; simp at ht; subst ht; exact ⟨by kernel_rfl, of_decide_eq_true (by kernel_rfl)⟩) ⟨rfl, rfl, rfl⟩ hW' hb⟩

theorem reads (os : Os) {H : Type} (enc : TypeId × Value → H) : ∃ places, DataW.whole enc Tryz.prog ((laidWorld os).forCall (fun _ _ => 0) ⟨#[], #[Value.agg #[.slice none 0 0, .slice none 0 0, .int .i64 0, .int .i64 0, .slice none 0 0]], []⟩).memory Tryz.f14.params.toList Rows.arrayGroupsSpec.vars false #[Value.agg #[.slice none 0 0, .slice none 0 0, .int .i64 0, .int .i64 0, .slice none 0 0]].toList 8 = some ([.agg [.agg [.nil, .nil], .lit (.int .i64 0), .lit (.int .i64 0), .nil]], [], places) :=
  ⟨[], by kernel_rfl⟩

set_option maxRecDepth 100000 in
theorem lifted (os : Os) (started : os.Started) (H : Type) (enc : TypeId × Value → H) (F : Stop.Interp) :
    ReturnsInHanded {} Tryz.checked os 14 .any ((OpenSpec.ofChange Rows.arrayGroupsSpec).preRow enc Tryz.prog Tryz.f14 Rows.arrayGroupsRow.domain false Rows.arrayGroupsRow.laid) (((OpenSpec.ofChange Rows.arrayGroupsSpec).at F).post enc Tryz.prog Tryz.f14 false true false false) := by
  obtain ⟨places, hx⟩ := reads os enc
  refine returnsInHanded_of_row (C := Tryz.checked) (s := OpenSpec.ofChange Rows.arrayGroupsSpec) Tryz.own started (by kernel_rfl) Tryz.func14
    (witness_row_atRef (enc := enc) (C := Tryz.checked) false (laidWorld os) #[Value.agg #[.slice none 0 0, .slice none 0 0, .int .i64 0, .int .i64 0, .slice none 0 0]] rfl (by kernel_rfl) (by kernel_rfl) (by kernel_rfl)
      (OpenSpec.preRow_of_cond 8 hx (by kernel_rfl) (fun k hk => by cases hk) (by kernel_rfl) (laid_met os _))) ?_
  intro W base args ds gs before hval hW _ _ _ hL hsh _
  exact contract H enc W base args ds gs before hval hW hL hsh

theorem k0 : (Rows.arrayGroupsRow.inPlace == Tryz.prog.inPlace 14) = true := by kernel_rfl
theorem k1 : (Rows.arrayGroupsRow.unfollowed == Tryz.prog.unfollowed 14) = true := by kernel_rfl
theorem k2 : (Rows.arrayGroupsRow.recurses == Tryz.prog.recurses 14) = true := by kernel_rfl
theorem k3 : (Rows.arrayGroupsRow.named == Tryz.prog.varsNamed 14) = true := by kernel_rfl
theorem k4 : (Rows.arrayGroupsRow.plainKeys == Tryz.prog.plainKeys) = true := by kernel_rfl
theorem k5 : (Tryz.prog.mayEnter) = true := by kernel_rfl
theorem k6 : (Rows.arrayGroupsRow.lifted == Tryz.prog.liftsFinal) = true := by kernel_rfl
theorem k7 : (Tryz.prog.make == some Rows.arrayGroupsRow.make) = true := by kernel_rfl
theorem k8 : (Tryz.prog.stopsHeard) = true := by kernel_rfl
theorem k9 : (mapsRowed Tryz.prog) = true := by kernel_rfl
theorem joined : joinedFacts Tryz.prog 14 Tryz.f14 (OpenSpec.ofChange Rows.arrayGroupsSpec).bare Rows.arrayGroupsRow = true := by
  unfold joinedFacts
  rw [k0, k1, k2, k3, k4, k5, k6, k7, k8, k9, Tryz.laidOutB_ok]
  kernel_rfl

theorem goes : false = Rows.arrayGroupsRow.goesBy Tryz.prog := by kernel_rfl
theorem looks : true = Tryz.pinned.checked.prog.looks [] := by kernel_rfl
theorem wfB : Rows.arrayGroupsRow.wfByText (OpenSpec.ofChange Rows.arrayGroupsSpec) = true := by kernel_rfl
theorem said : Rows.ArrayGroupsSaid :=
  OpenClaim.holds_of_cond 14 Tryz.f14 rfl rfl rfl rfl rfl rfl rfl ⟨rfl, rfl, rfl, rfl, rfl⟩ rfl rfl rfl rfl rfl (by kernel_rfl) Tryz.func14 joined
    (of_decide_eq_true (by kernel_rfl)) (by unfold Func.isWrapper; first | (rw [if_pos (by decide +kernel)]; kernel_rfl) | (rw [if_neg (by decide +kernel)]; exact ⟨rfl, rfl⟩))
    (fun os started H enc _ F => by rw [OpenClaim.pre_eq_preRow]; exact lifted os started H enc F)

theorem plain (f : FuncId) (fn : Func) (hf : Tryz.pinned.checked.prog.funcNamed "arrayarchive/arrayarchivelaw06.ArrayGroups" = some f) (hfn : Tryz.pinned.checked.prog.funcs[f]? = some fn) :
    true = Tryz.pinned.checked.prog.looks [] ∧ ∀ (j : Nat) t, fn.params[j]? = some t → Tryz.pinned.checked.prog.wantsStandIn t = false := by
  obtain rfl : f = 14 := Option.some.inj ((show Tryz.prog.funcNamed "arrayarchive/arrayarchivelaw06.ArrayGroups" = some 14 by kernel_rfl).symm.trans hf) |>.symm
  obtain rfl : fn = Tryz.f14 := (Option.some.inj (Tryz.func14.symm.trans hfn)).symm
  refine ⟨looks, fun j t ht => ?_⟩
  rw [Tryz.params14] at ht
  have hm := Array.mem_of_getElem? ht
  simp at hm
  subst hm
  exact (show Tryz.prog.wantsStandIn 76 = false by kernel_rfl)

theorem card : Rows.ArrayGroupsCardSaid :=
  Claim7.holds_tied_plain_at .later [] _ _ _ _ said (fun _ h => by cases h) wfB (fun _ h => by cases h) arrayGroups_row_tie rfl ⟨rfl, rfl⟩ (by kernel_rfl) rfl plain goes
end Go.Proofs.YtgnffedncjjkfaaGreatDoor.fnGroups
namespace Go.Proofs.YtgnffedncjjkfaaGreatDoor
theorem groups_holds : Rows.ArrayGroupsCardSaid := fnGroups.card
end Go.Proofs.YtgnffedncjjkfaaGreatDoor
