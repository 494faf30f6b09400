/-
  Plain law of ArrayTouches.
-/
import Derived.Test.YtgnffedncjjkfaaDoorChkU
namespace Go.Proofs.YtgnffedncjjkfaaDoor
open Go.RowKit Ix Ar

/-- A box and a slab have an element in common, in each dimension. -/
def Meet1 (b c : Cut) : Prop := ∃ j : Nat, j < c.2.1.toNat ∧ b.1 ≤ c.1 + (j : Int) * c.2.2 ∧ c.1 + (j : Int) * c.2.2 < b.1 + b.2.1
def Meets (B C : List Cut) : Prop := ∀ (k : Nat) (b c : Cut), B[k]? = some b → C[k]? = some c → Meet1 b c
theorem meets_nil : Meets [] [] := fun k b c h => by simp at h
theorem meets_cons {b c : Cut} {B C : List Cut} : Meets (b :: B) (c :: C) ↔ Meet1 b c ∧ Meets B C := by
  constructor
  · intro h
    exact ⟨h 0 b c rfl rfl, fun k x y hx hy => h (k + 1) x y (by simpa using hx) (by simpa using hy)⟩
  · rintro ⟨h1, h2⟩ k x y hx hy
    cases k with
    | zero => simp at hx hy; rw [← hx, ← hy]; exact h1
    | succ k => exact h2 k x y (by simpa using hx) (by simpa using hy)
theorem meet1_iff {c : Cut} {s z i : Nat} (hF : FitC c (s : Int)) (hz : 1 ≤ z) : i ∈ tl c z ↔ Meet1 (((i * z : Nat) : Int), ((min z (s - i * z) : Nat) : Int), 1) c := by
  rw [(tl_line hF z).2, mem_tline]
  have key : ∀ j : Nat, j < c.2.1.toNat → ((c.1 + (j : Int) * c.2.2).toNat / z = i ↔ ((i * z : Nat) : Int) ≤ c.1 + (j : Int) * c.2.2 ∧ c.1 + (j : Int) * c.2.2 < ((i * z : Nat) : Int) + ((min z (s - i * z) : Nat) : Int)) := fun j hj => by
    have h1 := fitC_at hF (i := j) (by omega) (by omega)
    have h0 : 0 ≤ c.1 + (j : Int) * c.2.2 := by have := hF.1; omega
    generalize c.1 + (j : Int) * c.2.2 = x at *
    obtain ⟨n, rfl⟩ : ∃ n : Nat, x = (n : Int) := ⟨x.toNat, by omega⟩
    rw [Int.toNat_natCast, Nat.div_eq_iff (by omega)]
    have e : z * i = i * z := Nat.mul_comm _ _
    generalize i * z = t at *
    omega
  unfold Meet1
  exact exists_congr fun j => ⟨fun ⟨h1, h2⟩ => ⟨h1, (key j h1).1 h2⟩, fun ⟨h1, h2⟩ => ⟨h1, (key j h1).2 h2⟩⟩
theorem ins_meets : ∀ {S Z : List Nat} {C : List Cut} {I : List Nat}, (∀ z ∈ Z, 1 ≤ z) → Z.length = S.length → Fit (S.map Int.ofNat) C → I.length = S.length → (ins (tls C Z) I = true ↔ Meets (boxC S Z I) C)
  | [], [], [], [], _, _, _, _ => ⟨fun _ => meets_nil, fun _ => rfl⟩
  | [], [], [], _ :: _, _, _, _, h => by simp at h
  | [], _ :: _, _, _, _, h, _, _ => by simp at h
  | _ :: _, [], _, _, _, h, _, _ => by simp at h
  | [], [], _ :: _, _, _, _, h, _ => h.elim
  | _ :: _, _ :: _, [], _, _, _, h, _ => h.elim
  | _ :: _, _ :: _, _ :: _, [], _, _, _, h => by simp at h
  | s :: S, z :: Z, c :: C, i :: I, hz, hl, hF, hI => by
    have ih := ins_meets (S := S) (Z := Z) (C := C) (I := I) (fun x hx => hz x (by simp [hx])) (by simpa using hl) hF.2 (by simpa using hI)
    show ((tl c z).contains i && ins (tls C Z) I) = true ↔ Meets (_ :: boxC S Z I) (c :: C)
    rw [meets_cons, ← ih, Bool.and_eq_true, List.contains_iff_mem, meet1_iff hF.1 (hz z (by simp))]
/-- Of the first i chunks those that meet the slab. -/
def ixg (nn : List Nat) (p : Nat → Bool) (i : Nat) : List (List Int) := ((List.range i).filter p).map fun k => (idx nn k).map Int.ofNat
theorem ixg_next (nn : List Nat) (p : Nat → Bool) (i : Nat) : ixg nn p (i + 1) = if p i then ixg nn p i ++ [(idx nn i).map Int.ofNat] else ixg nn p i := by
  unfold ixg
  rw [List.range_succ, List.filter_append, List.map_append, List.filter_cons]
  cases p i <;> simp
theorem ixg_len (nn : List Nat) (p : Nat → Bool) (i : Nat) : (ixg nn p i).length ≤ i := by
  unfold ixg
  rw [List.length_map]
  have := List.length_filter_le p (List.range i)
  simpa using this
theorem ixg_pre (nn : List Nat) (p : Nat → Bool) : ∀ {i n : Nat}, i ≤ n → ∃ r, ixg nn p n = ixg nn p i ++ r
  | i, 0, h => by obtain rfl : i = 0 := by omega
                  exact ⟨[], by simp⟩
  | i, n + 1, h => by
    rcases Nat.lt_or_ge i (n + 1) with h1 | h1
    · obtain ⟨r, hr⟩ := ixg_pre nn p (show i ≤ n by omega)
      rw [ixg_next]
      cases p n
      · exact ⟨r, hr⟩
      · exact ⟨r ++ [(idx nn n).map Int.ofNat], by simp [hr]⟩
    · obtain rfl : i = n + 1 := by omega
      exact ⟨[], by simp⟩
theorem ixg_at {nn : List Nat} {p : Nat → Bool} {i n : Nat} (h : i < n) (hp : p i = true) : (ixg nn p n)[(ixg nn p i).length]? = some ((idx nn i).map Int.ofNat) ∧ (ixg nn p (i + 1)).length = (ixg nn p i).length + 1 := by
  obtain ⟨r, hr⟩ := ixg_pre nn p (show i + 1 ≤ n from h)
  rw [ixg_next, hp, if_pos rfl] at hr ⊢
  refine ⟨?_, by simp⟩
  rw [hr, List.append_assoc, List.getElem?_append_right (Nat.le_refl _), Nat.sub_self]
  rfl
/-- The chunks touched are those that meet the slab. -/
theorem touched_ixg {S Z : List Int} {C : List Cut} (hV : VS S) (hZ : Zs S Z) (hF : Fit S C) :
    (cart (tls C (Z.map Int.toNat))).map (List.map Int.ofNat) = ixg (nums (S.map Int.toNat) (Z.map Int.toNat)) (fun i => ins (tls C (Z.map Int.toNat)) (idx (nums (S.map Int.toNat) (Z.map Int.toNat)) i)) (Ix.prod (nums (S.map Int.toNat) (Z.map Int.toNat))) := by
  have hS : (S.map Int.toNat).map Int.ofNat = S := nats_back (fun s hs => (hV.2.1 s hs).1)
  have hl := tls_lines (Z := Z.map Int.toNat) hF (by rw [List.length_map, hZ.1])
  have hF' : Fit ((S.map Int.toNat).map Int.ofNat) C := by rw [hS]; exact hF
  obtain ⟨l1, l2⟩ := lines_len hl
  have hin : ∀ I, ins (tls C (Z.map Int.toNat)) I = true → Inside (nums (S.map Int.toNat) (Z.map Int.toNat)) I := fun I hI => by
    obtain ⟨J, j1, rfl, _⟩ := (ins_iff hl).1 hI
    exact (thr_chk (zs_pos hZ) (zs_len hZ) (thr_inside hF j1)).1
  have h := cart_filter (L := tls C (Z.map Int.toNat)) (N := nums (S.map Int.toNat) (Z.map Int.toNat)) (by rw [l1, fit_len hF, nums_len (zs_len hZ), List.length_map]) l2 hin (lines_lt (zs_pos hZ) hF' hl)
  rw [List.filter_map] at h
  rw [← h, List.map_map]
  rfl
theorem chunk_meets {S Z : List Int} {C : List Cut} (hV : VS S) (hZ : Zs S Z) (hF : Fit S C) (i : Nat) :
    ins (tls C (Z.map Int.toNat)) (idx (nums (S.map Int.toNat) (Z.map Int.toNat)) i) = true ↔ Meets (boxC (S.map Int.toNat) (Z.map Int.toNat) (idx (nums (S.map Int.toNat) (Z.map Int.toNat)) i)) C := by
  have hS : (S.map Int.toNat).map Int.ofNat = S := nats_back (fun s hs => (hV.2.1 s hs).1)
  exact ins_meets (zs_pos hZ) (zs_len hZ) (by rw [hS]; exact hF) (by rw [idx_len, nums_len (zs_len hZ)])
end Go.Proofs.YtgnffedncjjkfaaDoor

