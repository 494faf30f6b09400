/-
  Words: lists of numbers in memory.
  Walk: package ratio's Sum.
-/
import Derived.Test.YtpkhgdnkkdhlcaaGreatDoorOwnI
import Derived.Test.YtpkhgdnkkdhlcaaGreatDoorSzQ
namespace Go.Proofs.YtpkhgdnkkdhlcaaGreatDoor
open Go.RowKit Ar

/-- A number's cells. -/
structure Fx where
  b1 : Bool
  n1 : Value
  d1 : Value
def Fx.cells (s : Fx) : List Value := [.bool s.b1, s.n1, s.d1]
def Fx.val (s : Fx) : Value := .agg #[.bool s.b1, s.n1, s.d1]
def frow (S : List Fx) : List Value := S.flatMap Fx.cells
theorem frow_len (S : List Fx) : (frow S).length = S.length * 3 := by
  induction S with
  | nil => rfl
  | cons s S ih => show (s.cells ++ frow S).length = _; rw [List.length_append, ih]; simp [Fx.cells]; omega
theorem frow_app (S T : List Fx) : frow (S ++ T) = frow S ++ frow T := List.flatMap_append
theorem frow_at {S : List Fx} {i : Nat} {s : Fx} (h : S[i]? = some s) (j : Nat) (hj : j < 3) : (frow S)[i * 3 + j]? = s.cells[j]? := by
  induction S generalizing i with
  | nil => simp at h
  | cons q S ih =>
    have hq : q.cells.length = 3 := rfl
    show (q.cells ++ frow S)[i * 3 + j]? = _
    cases i with
    | zero =>
      simp at h; subst h
      rw [Nat.zero_mul, Nat.zero_add, List.getElem?_append_left (by omega)]
    | succ i =>
      rw [List.getElem?_append_right (by omega), hq, show (i + 1) * 3 + j - 3 = i * 3 + j by omega]
      exact ih (by simpa using h)
/-- Three cells from a place on. -/
def Thr (w : World) (p : Addr) (s : Fx) : Prop :=
  w.cell? p = some (.bool s.b1) ∧ w.cell? ⟨p.block, p.off + 1, none⟩ = some s.n1 ∧ w.cell? ⟨p.block, p.off + 2, none⟩ = some s.d1
theorem Rd.fracAt {w : World} {B : Nat} {A : Option Addr} {S : List Fx} (h : Rd w B A (frow S)) {i : Nat} {s : Fx} (hs : S[i]? = some s) : ∃ ad, A = some ad ∧ ad.block < B ∧ Thr w (ad.add (i * 3)) s := by
  have h0 := frow_at hs 0 (by omega)
  obtain ⟨ad, e, hb, hc⟩ := h (by intro e; rw [e] at h0; simp [Fx.cells] at h0)
  refine ⟨ad, e, hb, hc _ _ h0, ?_, ?_⟩
  · rw [addr_plus ad (i * 3) 0]; exact hc _ _ (frow_at hs 1 (by omega))
  · rw [addr_plus ad (i * 3) 1]; exact hc _ _ (frow_at hs 2 (by omega))

/-- A number in memory. -/
def IsFx (w : World) (B : Nat) (s : Fx) (p : Rat) : Prop := IsF w B (.agg #[.bool s.b1, s.n1, s.d1]) p
theorem IsFx.kept {w w' : World} {B : Nat} {s : Fx} {p : Rat} (h : IsFx w B s p) (hg : Ints w w') : IsFx w' B s p := IsF.kept (v := .agg #[.bool s.b1, s.n1, s.d1]) h hg
/-- A list of numbers in memory. -/
def IsFs (w : World) (B : Nat) (v : Value) (l : List Rat) : Prop :=
  ∃ A c S, v = .slice A l.length c ∧ l.length ≤ c ∧ S.length = l.length ∧ Rd w B A (frow S) ∧ ∀ (i : Nat) (p : Rat), l[i]? = some p → ∃ s, S[i]? = some s ∧ IsFx w B s p
theorem IsFx.more {w : World} {B B' : Nat} {s : Fx} {p : Rat} (h : IsFx w B s p) (hB : B ≤ B') : IsFx w B' s p := IsF.more (v := .agg #[.bool s.b1, s.n1, s.d1]) h hB
theorem IsFx.below {w w' : World} {B : Nat} {s : Fx} {p : Rat} (h : IsFx w B s p) (hb : Below B w w') : IsFx w' B s p := IsF.below (v := .agg #[.bool s.b1, s.n1, s.d1]) h hb
theorem IsFx.next {w w' : World} {s : Fx} {p : Rat} (h : IsFx w w.heap.size s p) (hb : Below w.heap.size w w') : IsFx w' w'.heap.size s p := (h.below hb).more hb.size
theorem IsFs.more {w : World} {B B' : Nat} {v : Value} {l : List Rat} (h : IsFs w B v l) (hB : B ≤ B') : IsFs w B' v l := by
  obtain ⟨A, c, S, e, h1, h2, h3, h4⟩ := h
  exact ⟨A, c, S, e, h1, h2, h3.more hB, fun i x hx => by obtain ⟨u, k1, k2⟩ := h4 i x hx; exact ⟨u, k1, k2.more hB⟩⟩
theorem IsFs.below {w w' : World} {B : Nat} {v : Value} {l : List Rat} (h : IsFs w B v l) (hb : Below B w w') : IsFs w' B v l := by
  obtain ⟨A, c, S, e, h1, h2, h3, h4⟩ := h
  exact ⟨A, c, S, e, h1, h2, h3.below hb, fun i x hx => by obtain ⟨u, k1, k2⟩ := h4 i x hx; exact ⟨u, k1, k2.below hb⟩⟩
theorem IsFs.next {w w' : World} {v : Value} {l : List Rat} (h : IsFs w w.heap.size v l) (hb : Below w.heap.size w w') : IsFs w' w'.heap.size v l := (h.below hb).more hb.size
/-- A list of numbers under way: a row of the call's own. -/
def OwnFs (w : World) (base : Nat) (v : Value) (l : List Rat) : Prop :=
  ∃ S : List Fx, S.length = l.length ∧ w.ownsRow base 102 3 v l.length (frow S) ∧ NoIntB w v.ownBlock ∧ ∀ (i : Nat) (p : Rat), l[i]? = some p → ∃ s, S[i]? = some s ∧ IsFx w w.heap.size s p
theorem OwnFs.nil (w : World) (base : Nat) : OwnFs w base (.slice none 0 0) [] := ⟨[], rfl, World.ownsRow_nil _ _ _ _, fun b hb => by simp [Value.ownBlock] at hb, fun i p h => by simp at h⟩
theorem OwnFs.form {w : World} {base : Nat} {v : Value} {l : List Rat} (h : OwnFs w base v l) : ∃ A c, v = .slice A l.length c := by
  obtain ⟨S, _, hown, _⟩ := h
  rcases hown.2 with ⟨rfl, e⟩ | ⟨g, cap, cur, rfl, _⟩
  · exact ⟨none, 0, by rw [e]⟩
  · exact ⟨_, _, rfl⟩
theorem OwnFs.is {w : World} {base : Nat} {v : Value} {l : List Rat} (h : OwnFs w base v l) : IsFs w w.heap.size v l := by
  obtain ⟨S, h1, hown, _, h2⟩ := h
  have hrd := hown.2
  obtain ⟨A, c, e, hc⟩ : ∃ A c, v = .slice A l.length c ∧ l.length ≤ c := by
    rcases hrd with ⟨rfl, e⟩ | ⟨g, cap, cur, rfl, _, _, hnc, _⟩
    · exact ⟨none, 0, by rw [e], by omega⟩
    · exact ⟨_, _, rfl, hnc⟩
  subst e
  exact ⟨A, c, S, rfl, hc, h1, Rd.of_own hown, h2⟩
theorem OwnFs.keep {w w' : World} {base : Nat} {v : Value} {l : List Rat} (h : OwnFs w base v l) (hb : Below w.heap.size w w') : OwnFs w' base v l := by
  obtain ⟨S, h1, hown, hni, h2⟩ := h
  refine ⟨S, h1, hown.kept (grown_of_below hb none) ?_, fun b hbk j k i hc => ?_, fun i p hp => ?_⟩
  · cases v.ownBlock with
    | none => exact .inl rfl
    | some g => exact .inr (by simp)
  · have hlt : b < w.heap.size := by
      rcases hown.2 with ⟨rfl, _⟩ | ⟨g, cap, cur, rfl, _, hg, _⟩
      · simp [Value.ownBlock] at hbk
      · have : g = b := by simpa [Value.ownBlock] using hbk
        subst this
        exact (Array.getElem?_eq_some_iff.1 hg).1
    exact hni b hbk j k i ((hb.cell (p := ⟨b, j, none⟩) hlt).symm.trans hc)
  · obtain ⟨s, k1, k2⟩ := h2 i p hp
    exact ⟨s, k1, k2.next hb⟩
theorem OwnFs.add {w w' : World} {base : Nat} {v v' : Value} {l : List Rat} {p : Rat} {S : List Fx} {s : Fx} (h1 : S.length = l.length) (hni : NoIntB w v.ownBlock) (h2 : ∀ (i : Nat) (p : Rat), l[i]? = some p → ∃ s, S[i]? = some s ∧ IsFx w w.heap.size s p)
    (hs : IsFx w w.heap.size s p) (hown : w'.ownsRow base 102 3 v' (l.length + 1) (frow S ++ s.cells)) (hg : w.grownBy w' v.ownBlock) (hn' : NoIntB w' v'.ownBlock) : OwnFs w' base v' (l ++ [p]) := by
  have hI := ints_grown hg hni
  refine ⟨S ++ [s], by simp [h1], ?_, hn', fun i q hq => ?_⟩
  · rw [List.length_append, List.length_singleton, frow_app]
    have e : frow [s] = s.cells := by simp [frow]
    rw [e]; exact hown
  · rcases Nat.lt_or_ge i l.length with hi | hi
    · rw [List.getElem?_append_left hi] at hq
      obtain ⟨s', k1, k2⟩ := h2 i q hq
      exact ⟨s', by rw [List.getElem?_append_left (by omega)]; exact k1, (k2.kept hI).more hg.size⟩
    · rw [List.getElem?_append_right hi] at hq
      have hi0 : i - l.length = 0 := by
        rcases Nat.eq_zero_or_pos (i - l.length) with h0 | h0
        · exact h0
        · rw [List.getElem?_eq_none (by simp; omega)] at hq; cases hq
      rw [hi0] at hq
      simp at hq
      subst hq
      exact ⟨s, by rw [List.getElem?_append_right (by omega), h1, hi0]; rfl, (hs.kept hI).more hg.size⟩
theorem IsFx.form {w : World} {B : Nat} {s : Fx} {p : Rat} (h : IsFx w B s p) : ∃ t A l c A' l' c', s = ⟨t, .slice A l c, .slice A' l' c'⟩ := by
  obtain ⟨b1, n1, d1⟩ := s
  obtain ⟨t, A, l, c, A', l', c', e1⟩ := IsF.form (v := .agg #[.bool b1, n1, d1]) h
  simp at e1
  obtain ⟨rfl, rfl, rfl⟩ := e1
  exact ⟨_, _, _, _, _, _, _, rfl⟩
theorem IsFs.form {w : World} {B : Nat} {v : Value} {l : List Rat} (h : IsFs w B v l) : ∃ A c, v = .slice A l.length c ∧ l.length ≤ c := by
  obtain ⟨A, c, _, e, h1, _⟩ := h
  exact ⟨A, c, e, h1⟩
end Go.Proofs.YtpkhgdnkkdhlcaaGreatDoor

namespace Go.Proofs.YtpkhgdnkkdhlcaaGreatDoor
open Go.RowKit Ar

theorem Tryz.frac_info : (Tryz.prog.info? 102).map (fun i => (i.zero, i.size, i.bytes)) = some (some (.agg #[.bool false, .slice none 0 0, .slice none 0 0]), 3, 56) := by kernel_rfl
/-- The sum of numbers. -/
def rsum : List Rat → Rat
  | [] => 0
  | q :: l => q + rsum l
theorem rsum_app (l m : List Rat) : rsum (l ++ m) = rsum l + rsum m := by
  induction l with
  | nil => show rsum m = 0 + rsum m; grind
  | cons q l ih => show q + rsum (l ++ m) = q + rsum l + rsum m; rw [ih]; grind
theorem sz_rsum {M : Nat} : ∀ l : List Rat, (∀ q ∈ l, sz q ≤ M) → sz (rsum l) ≤ l.length * (M + 1) + 1
  | [], _ => by show sz ((0 : Int) : Rat) ≤ _; have := sz_small 0 (by decide); omega
  | q :: l, h => by
    have h1 := sz_rsum l (fun q hq => h q (by simp [hq]))
    have h2 := h q (by simp)
    have h3 := sz_add q (rsum l)
    show sz (q + rsum l) ≤ (l.length + 1) * (M + 1) + 1
    rw [Nat.add_mul]
    omega
theorem frow_take (S : List Fx) (k : Nat) : (frow S).take (k * 3) = frow (S.take k) := by
  induction S generalizing k with
  | nil => simp [frow]
  | cons s S ih =>
    cases k with
    | zero => simp [frow]
    | succ k =>
      show (s.cells ++ frow S).take ((k + 1) * 3) = s.cells ++ frow (S.take k)
      rw [List.take_append, show s.cells.length = 3 from rfl, List.take_of_length_le (by show 3 ≤ _; omega), show (k + 1) * 3 - 3 = k * 3 by omega, ih]
theorem frow_drop (S : List Fx) (k : Nat) : (frow S).drop (k * 3) = frow (S.drop k) := by
  induction S generalizing k with
  | nil => simp [frow]
  | cons s S ih =>
    cases k with
    | zero => simp [frow]
    | succ k =>
      show (s.cells ++ frow S).drop ((k + 1) * 3) = frow (S.drop k)
      rw [List.drop_append, show s.cells.length = 3 from rfl, List.drop_of_length_le (by show 3 ≤ _; omega), show (k + 1) * 3 - 3 = k * 3 by omega, ih, List.nil_append]
theorem IsFs.take {w : World} {B : Nat} {A : Option Addr} {n c : Nat} {l : List Rat} (h : IsFs w B (.slice A n c) l) {k : Nat} (hk : k ≤ n) : IsFs w B (.slice A k c) (l.take k) := by
  obtain ⟨A', c', S, e, h1, h2, h3, h4⟩ := h
  simp at e
  obtain ⟨rfl, rfl, rfl⟩ := e
  have hl : (l.take k).length = k := by rw [List.length_take]; omega
  refine ⟨A, c, S.take k, by rw [hl], by omega, by rw [List.length_take, List.length_take]; omega, ?_, fun i p hp => ?_⟩
  · rw [← frow_take]; exact h3.take _
  · have hi : i < k := by have := (List.getElem?_eq_some_iff.1 hp).1; omega
    rw [List.getElem?_take_of_lt hi] at hp
    rw [List.getElem?_take_of_lt hi]
    exact h4 i p hp
theorem IsFs.drop {w : World} {B : Nat} {ad : Addr} {n c : Nat} {l : List Rat} (h : IsFs w B (.slice (some ad) n c) l) {k : Nat} (hk : k ≤ n) : IsFs w B (.slice (some (ad.add (k * 3))) (n - k) (c - k)) (l.drop k) := by
  obtain ⟨A', c', S, e, h1, h2, h3, h4⟩ := h
  simp at e
  obtain ⟨rfl, rfl, rfl⟩ := e
  refine ⟨some (ad.add (k * 3)), c - k, S.drop k, by rw [List.length_drop], by rw [List.length_drop]; omega, by rw [List.length_drop, List.length_drop]; omega, ?_, fun i p hp => ?_⟩
  · rw [← frow_drop]
    intro hn
    obtain ⟨a, e, hb, hc⟩ := h3 (by intro e; rw [e] at hn; simp at hn)
    cases e
    refine ⟨_, rfl, by rw [addr_block]; exact hb, fun j u hu => ?_⟩
    rw [addr_add]
    exact hc _ u (by rw [← hu, List.getElem?_drop])
  · rw [List.getElem?_drop] at hp
    obtain ⟨s, k1, k2⟩ := h4 _ p hp
    exact ⟨s, by rw [List.getElem?_drop]; exact k1, k2⟩

end Go.Proofs.YtpkhgdnkkdhlcaaGreatDoor

