/-
  Plain law: reductions along an axis.
  Walks: package array: span, checked, the closures of Reduce, Window, Group.
  Walks: package array: along.
  Walks: the reference's axial, with, along.
  Walk: package array: Window.
  Walk: the reference's Window.
  Walks: slices.Delete of a list of the call's own; package array: Reduce.
  Walks: the reference's without, Reduce.
  The walk of the law ArrayReduces.
-/
import Derived.Test.YtgnffedncjjkfaaGreatDoorRedX
import Derived.Test.YtgnffedncjjkfaaGreatDoorMovP
import Derived.Test.YtgnffedncjjkfaaGreatDoorHeldT
import Derived.Test.YtgnffedncjjkfaaGreatDoorHeldN
import Derived.Shelf.Slices.Delete
import Derived.Test.YtgnffedncjjkfaaGreatDoorArxH
namespace Ix

theorem prod_set1 : ∀ (S : List Nat) (x : Nat), x < S.length → prod (S.set x 1) = prod (S.eraseIdx x)
  | s :: S, 0, _ => by show 1 * prod S = prod S; omega
  | s :: S, x + 1, h => by
    show s * prod (S.set x 1) = s * prod (S.eraseIdx x)
    rw [prod_set1 S x (by simpa using h)]
theorem idx_set1 : ∀ (S : List Nat) (x k : Nat), x < S.length → k < prod (S.eraseIdx x) → idx (S.set x 1) k = (idx (S.eraseIdx x) k).insertIdx x 0
  | s :: S, 0, k, _, hk => by
    have hk : k < prod S := hk
    show k / prod S :: idx S (k % prod S) = 0 :: idx S k
    rw [Nat.div_eq_of_lt hk, Nat.mod_eq_of_lt hk]
  | s :: S, x + 1, k, h, hk => by
    have h' : x < S.length := by simpa using h
    have hk : k < s * prod (S.eraseIdx x) := hk
    have hp : 0 < prod (S.eraseIdx x) := (prod_pos_tail (s := s) (by show 0 < s * _; omega)).2
    show k / prod (S.set x 1) :: idx (S.set x 1) (k % prod (S.set x 1)) = k / prod (S.eraseIdx x) :: (idx (S.eraseIdx x) (k % prod (S.eraseIdx x))).insertIdx x 0
    rw [prod_set1 S x h', idx_set1 S x _ h' (Nat.mod_lt _ hp)]
theorem tab_set1 {α : Type} (S : List Nat) (x : Nat) (h : x < S.length) (f : List Nat → α) : tab (S.set x 1) f = tab (S.eraseIdx x) fun J => f (J.insertIdx x 0) := by
  unfold tab
  rw [prod_set1 S x h]
  refine List.map_congr_left fun k hk => ?_
  rw [idx_set1 S x k h (List.mem_range.1 hk)]
theorem ins_set : ∀ (J : List Nat) (x a p : Nat), x ≤ J.length → (J.insertIdx x a).set x p = J.insertIdx x p
  | J, 0, a, p, _ => by simp
  | j :: J, x + 1, a, p, h => by
    show j :: (J.insertIdx x a).set x p = j :: J.insertIdx x p
    rw [ins_set J x a p (by simpa using h)]
theorem ins_getD : ∀ (J : List Nat) (x p : Nat), x ≤ J.length → (J.insertIdx x p).getD x 0 = p
  | J, 0, p, _ => by simp
  | j :: J, x + 1, p, h => by
    show (J.insertIdx x p).getD x 0 = p
    exact ins_getD J x p (by simpa using h)
theorem inside_ins : ∀ (S J : List Nat) (x p : Nat), x < S.length → Inside (S.eraseIdx x) J → p < S.getD x 0 → Inside S (J.insertIdx x p)
  | s :: S, J, 0, p, _, hJ, hp => ⟨hp, hJ⟩
  | s :: S, [], x + 1, p, _, hJ, _ => hJ.elim
  | s :: S, j :: J, x + 1, p, h, hJ, hp => ⟨hJ.1, inside_ins S J x p (by simpa using h) hJ.2 hp⟩
theorem inside_set : ∀ (S I : List Nat) (x p n : Nat), x < S.length → Inside (S.set x n) I → p < S.getD x 0 → Inside S (I.set x p)
  | s :: S, [], 0, p, n, _, hI, _ => hI.elim
  | s :: S, [], x + 1, p, n, _, hI, _ => hI.elim
  | s :: S, i :: I, 0, p, n, _, hI, hp => ⟨hp, hI.2⟩
  | s :: S, i :: I, x + 1, p, n, h, hI, hp => ⟨hI.1, inside_set S I x p n (by simpa using h) hI.2 hp⟩
theorem set_self {I : List Nat} {x : Nat} (h : x < I.length) : I.set x (I.getD x 0) = I := by
  rw [getD_in h]; exact List.set_getElem_self h
/-- Where an element along an axis is. -/
theorem place_set : ∀ (S I : List Nat) (x p : Nat), x < S.length → I.length = S.length → place S (I.set x p) + I.getD x 0 * (strides S).getD x 0 = place S I + p * (strides S).getD x 0
  | s :: S, i :: I, 0, p, _, _ => by
    show p * prod S + place S I + i * prod S = i * prod S + place S I + p * prod S
    omega
  | s :: S, i :: I, x + 1, p, h, hl => by
    have := place_set S I x p (by simpa using h) (by simpa using hl)
    show i * prod S + place S (I.set x p) + I.getD x 0 * (strides S).getD x 0 = i * prod S + place S I + p * (strides S).getD x 0
    omega
theorem eraseIdx_len {α : Type} {S : List α} {x : Nat} (h : x < S.length) : (S.eraseIdx x).length + 1 = S.length := by
  rw [List.length_eraseIdx, if_pos h]; omega
/-- Two dimensions taken out, in either order. -/
theorem erase2 {α : Type} : ∀ (S : List α) (a b : Nat), a ≤ b → (S.eraseIdx (b + 1)).eraseIdx a = (S.eraseIdx a).eraseIdx b
  | [], a, b, _ => by simp
  | s :: S, 0, b, _ => by simp
  | s :: S, a + 1, 0, h => by omega
  | s :: S, a + 1, b + 1, h => by
    show s :: (S.eraseIdx (b + 1)).eraseIdx a = s :: (S.eraseIdx a).eraseIdx b
    rw [erase2 S a b (by omega)]
theorem ins2 : ∀ (J : List Nat) (a b p r : Nat), a ≤ b → b ≤ J.length → (J.insertIdx a p).insertIdx (b + 1) r = (J.insertIdx b r).insertIdx a p
  | J, 0, b, p, r, _, _ => by simp
  | [], a + 1, b, p, r, h, hb => by simp at hb; omega
  | j :: J, a + 1, 0, p, r, h, _ => by omega
  | j :: J, a + 1, b + 1, p, r, h, hb => by
    show j :: (J.insertIdx a p).insertIdx (b + 1) r = j :: (J.insertIdx b r).insertIdx a p
    rw [ins2 J a b p r (by omega) (by simpa using hb)]
theorem erase_getD_lt {S : List Nat} : ∀ {a b : Nat}, a < b → (S.eraseIdx b).getD a 0 = S.getD a 0 := by
  intro a b h
  rw [List.getD_eq_getElem?_getD, List.getElem?_eraseIdx_of_lt h, ← List.getD_eq_getElem?_getD]
theorem erase_getD_ge {S : List Nat} : ∀ {a b : Nat}, a ≤ b → (S.eraseIdx a).getD b 0 = S.getD (b + 1) 0 := by
  intro a b h
  rw [List.getD_eq_getElem?_getD, List.getElem?_eraseIdx_of_ge h, ← List.getD_eq_getElem?_getD]
theorem prod_erase_le : ∀ (S : List Nat) (x : Nat), x < S.length → prod S = S.getD x 0 * prod (S.eraseIdx x)
  | s :: S, 0, _ => rfl
  | s :: S, x + 1, h => by
    show s * prod S = S.getD x 0 * (s * prod (S.eraseIdx x))
    rw [prod_erase_le S x (by simpa using h), Nat.mul_left_comm]
end Ix

namespace Go.Proofs.YtgnffedncjjkfaaGreatDoor
open Go.RowKit Ix Ar

/-- The elements along an axis at some positions. -/
def alV (S : List Nat) (V : List ByteArray) (x : Nat) (I ps : List Nat) : List ByteArray := ps.map fun p => V.getD (place S (I.set x p)) ⟨#[]⟩
/-- The reductions along an axis, of the positions that a function gives. -/
noncomputable def alongV (S : List Nat) (V : List ByteArray) (x : Nat) (red : Int) (n : Nat) (pos : Nat → List Nat) : List ByteArray :=
  tab (S.set x n) fun I => redT red (numsT (alV S V x I (pos (I.getD x 0))))
/-- The sum's term of a text. -/
noncomputable def qv (s : ByteArray) : Rat := if numB s then textRat s.data.toList else 0
theorem rsum_nums (L : List ByteArray) : rsum (numsT L) = rsum (L.map qv) := by
  induction L with
  | nil => rfl
  | cons s L ih =>
    show rsum (numT s ++ numsT L) = qv s + rsum (L.map qv)
    rw [rsum_app, ih]
    congr 1
    unfold numT qv
    split
    · show textRat _ + 0 = _; grind
    · rfl
theorem rsum_add {α : Type} (l : List α) (f g : α → Rat) : rsum (l.map fun p => f p + g p) = rsum (l.map f) + rsum (l.map g) := by
  induction l with
  | nil => show (0 : Rat) = 0 + 0; grind
  | cons p l ih =>
    show f p + g p + rsum (l.map fun p => f p + g p) = f p + rsum (l.map f) + (g p + rsum (l.map g))
    rw [ih]; grind
theorem rsum_zero {α : Type} (l : List α) : rsum (l.map fun _ => (0 : Rat)) = 0 := by
  induction l with
  | nil => rfl
  | cons p l ih => show (0 : Rat) + rsum _ = 0; rw [ih]; grind
theorem rsum_swap {α β : Type} (l : List α) (m : List β) (f : α → β → Rat) : rsum (l.map fun p => rsum (m.map fun r => f p r)) = rsum (m.map fun r => rsum (l.map fun p => f p r)) := by
  induction l with
  | nil => exact (rsum_zero m).symm
  | cons p l ih =>
    show rsum (m.map fun r => f p r) + rsum (l.map fun p => rsum (m.map fun r => f p r)) = rsum (m.map fun r => f p r + rsum (l.map fun p => f p r))
    rw [rsum_add, ih]
theorem putT_empty {q : Rat} (h : ¬ Short q) : putT q = ⟨#[]⟩ := if_neg h
theorem ratText_ne (q : Rat) : ratText q ≠ [] := fun h => by
  have h1 := (isText_ratText q).1
  rw [h] at h1
  exact absurd (isText_digs h1).2.2.1 (by decide)
theorem putT_short {q : Rat} (h : putT q ≠ ⟨#[]⟩) : Short q := by
  by_cases k : Short q
  · exact k
  · exact absurd (putT_empty k) h
theorem empty_not_num : numB ⟨#[]⟩ = false := by
  cases h : numB ⟨#[]⟩ with
  | false => rfl
  | true =>
    have h1 := ((numB_iff _).1 h).1
    exact absurd (isText_digs h1).2.2.1 (by decide)
theorem putT_val (q : Rat) : valB (putT q) = true := by
  refine (valB_iff _).2 ?_
  by_cases k : Short q
  · exact .inr ((numB_iff _).1 (put_num k).1)
  · rw [putT_empty k]; exact isVal_empty
theorem redT_val (red : Int) (l : List Rat) : valB (redT red l) = true := by
  have he : valB ⟨#[]⟩ = true := (valB_iff _).2 isVal_empty
  unfold redT
  split
  · exact putT_val _
  · split
    · exact putT_val _
    · split
      · exact he
      · split
        · exact putT_val _
        · split
          · exact he
          · exact putT_val _
theorem map_erase {α β : Type} (f : α → β) : ∀ (S : List α) (x : Nat), (S.eraseIdx x).map f = (S.map f).eraseIdx x
  | [], x => by simp
  | s :: S, 0 => rfl
  | s :: S, x + 1 => by
    show f s :: (S.eraseIdx x).map f = f s :: (S.map f).eraseIdx x
    rw [map_erase f S x]
theorem VS_set1 {S : List Int} {x : Nat} (hS : VS S) (hx : x < S.length) : VS (S.set x 1) ↔ VS (S.eraseIdx x) := by
  have e : Ix.prod ((S.set x 1).map Int.toNat) = Ix.prod ((S.eraseIdx x).map Int.toNat) := by
    rw [List.map_set, map_erase]
    exact prod_set1 _ x (by rw [List.length_map]; exact hx)
  have hl := eraseIdx_len hx
  unfold VS
  rw [e, List.length_set]
  constructor
  · rintro ⟨h1, h2, h3⟩
    exact ⟨by omega, fun s hs => hS.2.1 s (List.mem_of_mem_eraseIdx hs), h3⟩
  · rintro ⟨h1, h2, h3⟩
    refine ⟨hS.1, fun s hs => ?_, h3⟩
    rcases List.mem_or_eq_of_mem_set hs with h | h
    · exact hS.2.1 s h
    · omega
def AxOk (a : Arr) (x red : Int) : Prop := (0 ≤ x ∧ x < (a.1.length : Int)) ∧ 1 ≤ red ∧ red ≤ 5
/-- What Reduce says. -/
noncomputable def reduceR (a : Arr) (x red : Int) : Arr × Int :=
  open Classical in if VA a then (if AxOk a x red then (if VS (a.1.eraseIdx x.toNat) then ((a.1.eraseIdx x.toNat, alongV (a.1.map Int.toNat) a.2 x.toNat red 1 (fun _ => List.range ((a.1.map Int.toNat).getD x.toNat 0))), 0) else (([], []), 60)) else (([], []), 2)) else (([], []), 60)
theorem reduceR_bad {a : Arr} {x red : Int} (h : ¬ VA a) : reduceR a x red = (([], []), 60) := by unfold reduceR; rw [if_neg h]
theorem reduceR_arg {a : Arr} {x red : Int} (h : VA a) (k : ¬ AxOk a x red) : reduceR a x red = (([], []), 2) := by unfold reduceR; rw [if_pos h, if_neg k]
theorem reduceR_shape {a : Arr} {x red : Int} (h : VA a) (k : AxOk a x red) (l : ¬ VS (a.1.eraseIdx x.toNat)) : reduceR a x red = (([], []), 60) := by unfold reduceR; rw [if_pos h, if_pos k, if_neg l]
theorem reduceR_ok {a : Arr} {x red : Int} (h : VA a) (k : AxOk a x red) (l : VS (a.1.eraseIdx x.toNat)) : reduceR a x red = ((a.1.eraseIdx x.toNat, alongV (a.1.map Int.toNat) a.2 x.toNat red 1 (fun _ => List.range ((a.1.map Int.toNat).getD x.toNat 0))), 0) := by unfold reduceR; rw [if_pos h, if_pos k, if_pos l]
theorem reduceR_err {a : Arr} {x red : Int} (h : (reduceR a x red).2 = 0) : VA a ∧ AxOk a x red ∧ VS (a.1.eraseIdx x.toNat) := by
  by_cases h1 : VA a
  · by_cases h2 : AxOk a x red
    · by_cases h3 : VS (a.1.eraseIdx x.toNat)
      · exact ⟨h1, h2, h3⟩
      · rw [reduceR_shape h1 h2 h3] at h; exact absurd h (by decide)
    · rw [reduceR_arg h1 h2] at h; exact absurd h (by decide)
  · rw [reduceR_bad h1] at h; exact absurd h (by decide)
/-- The positions of a window. -/
def wnd (n : Int) (k : Nat) : List Nat := List.range' (k + 1 - n.toNat) (k + 1 - (k + 1 - n.toNat))
noncomputable def windowR (a : Arr) (x red n : Int) : Arr × Int :=
  open Classical in if VA a then (if AxOk a x red ∧ 1 ≤ n then ((a.1, alongV (a.1.map Int.toNat) a.2 x.toNat red ((a.1.map Int.toNat).getD x.toNat 0) (wnd n)), 0) else (([], []), 2)) else (([], []), 60)
theorem windowR_bad {a : Arr} {x red n : Int} (h : ¬ VA a) : windowR a x red n = (([], []), 60) := by unfold windowR; rw [if_neg h]
theorem windowR_arg {a : Arr} {x red n : Int} (h : VA a) (k : ¬ (AxOk a x red ∧ 1 ≤ n)) : windowR a x red n = (([], []), 2) := by unfold windowR; rw [if_pos h, if_neg k]
theorem windowR_ok {a : Arr} {x red n : Int} (h : VA a) (k : AxOk a x red ∧ 1 ≤ n) : windowR a x red n = ((a.1, alongV (a.1.map Int.toNat) a.2 x.toNat red ((a.1.map Int.toNat).getD x.toNat 0) (wnd n)), 0) := by unfold windowR; rw [if_pos h, if_pos k]
theorem windowR_err {a : Arr} {x red n : Int} (h : (windowR a x red n).2 = 0) : VA a ∧ AxOk a x red ∧ 1 ≤ n := by
  by_cases h1 : VA a
  · by_cases h2 : AxOk a x red ∧ 1 ≤ n
    · exact ⟨h1, h2⟩
    · rw [windowR_arg h1 h2] at h; exact absurd h (by decide)
  · rw [windowR_bad h1] at h; exact absurd h (by decide)
/-- The positions of a group. -/
def grp (G : List (List Int)) (k : Nat) : List Nat := (G.getD k []).map Int.toNat
noncomputable def groupR (a : Arr) (x red : Int) (G : List (List Int)) : Arr × Int :=
  open Classical in if VA a then (if AxOk a x red ∧ ∀ g ∈ G, Dist g ((a.1.map Int.toNat).getD x.toNat 0) then (if VS (a.1.set x.toNat (G.length : Int)) then ((a.1.set x.toNat (G.length : Int), alongV (a.1.map Int.toNat) a.2 x.toNat red G.length (grp G)), 0) else (([], []), 60)) else (([], []), 2)) else (([], []), 60)
theorem groupR_bad {a : Arr} {x red : Int} {G : List (List Int)} (h : ¬ VA a) : groupR a x red G = (([], []), 60) := by unfold groupR; rw [if_neg h]
theorem groupR_arg {a : Arr} {x red : Int} {G : List (List Int)} (h : VA a) (k : ¬ (AxOk a x red ∧ ∀ g ∈ G, Dist g ((a.1.map Int.toNat).getD x.toNat 0))) : groupR a x red G = (([], []), 2) := by unfold groupR; rw [if_pos h, if_neg k]
theorem groupR_shape {a : Arr} {x red : Int} {G : List (List Int)} (h : VA a) (k : AxOk a x red ∧ ∀ g ∈ G, Dist g ((a.1.map Int.toNat).getD x.toNat 0)) (l : ¬ VS (a.1.set x.toNat (G.length : Int))) : groupR a x red G = (([], []), 60) := by unfold groupR; rw [if_pos h, if_pos k, if_neg l]
theorem groupR_ok {a : Arr} {x red : Int} {G : List (List Int)} (h : VA a) (k : AxOk a x red ∧ ∀ g ∈ G, Dist g ((a.1.map Int.toNat).getD x.toNat 0)) (l : VS (a.1.set x.toNat (G.length : Int))) : groupR a x red G = ((a.1.set x.toNat (G.length : Int), alongV (a.1.map Int.toNat) a.2 x.toNat red G.length (grp G)), 0) := by unfold groupR; rw [if_pos h, if_pos k, if_pos l]

/-- Windows of one element, summed. -/
theorem one_num {s : ByteArray} (h : IsVal s.data.toList) : redT 1 (numsT [s]) = if s = ⟨#[]⟩ then putT 0 else s := by
  show putT (rsum (numsT [s])) = _
  rw [rsum_nums]
  show putT (qv s + 0) = _
  by_cases h0 : s = ⟨#[]⟩
  · rw [if_pos h0, h0]
    unfold qv
    rw [if_neg (by rw [empty_not_num]; decide)]
    congr 1
    grind
  · rw [if_neg h0]
    have hn : numB s = true := (numB_iff s).2 (by
      rcases h with h | h
      · exact absurd (ba_list (b := ⟨#[]⟩) h) h0
      · exact h)
    unfold qv
    rw [if_pos hn, show textRat s.data.toList + 0 = textRat s.data.toList by grind]
    exact num_put hn
theorem wnd_one (k : Nat) : wnd 1 k = [k] := by
  unfold wnd
  rw [show k + 1 - (1 : Int).toNat = k from by show k + 1 - 1 = k; omega, show k + 1 - k = 1 by omega]
  rfl
theorem getD_mem' {V : List ByteArray} {k : Nat} (h : k < V.length) : V.getD k ⟨#[]⟩ ∈ V := by
  rw [List.getD_eq_getElem?_getD, List.getElem?_eq_getElem h]; exact List.getElem_mem h
theorem window_one {S : List Nat} {V : List ByteArray} {x : Nat} (hx : x < S.length) (hV : V.length = Ix.prod S) (hv : ∀ s ∈ V, IsVal s.data.toList) :
    alongV S V x 1 (S.getD x 0) (wnd 1) = V.map fun s => if s = ⟨#[]⟩ then putT 0 else s := by
  unfold alongV
  rw [set_self hx]
  rw [← tab_self S (V.map fun s => if s = ⟨#[]⟩ then putT 0 else s) (if (⟨#[]⟩ : ByteArray) = ⟨#[]⟩ then putT 0 else ⟨#[]⟩) (by rw [List.length_map, hV])]
  refine tab_congr S fun I hI => ?_
  rw [wnd_one]
  unfold alV
  rw [show [I.getD x 0].map (fun p => V.getD (place S (I.set x p)) ⟨#[]⟩) = [V.getD (place S (I.set x (I.getD x 0))) ⟨#[]⟩] from rfl, set_self (by rw [inside_len _ _ hI]; exact hx)]
  have hp : place S I < V.length := by rw [hV]; exact place_lt _ _ hI
  rw [one_num (hv _ (getD_mem' hp))]
  rw [List.getD_eq_getElem?_getD (l := V.map _), List.getElem?_map, List.getD_eq_getElem?_getD, List.getElem?_eq_getElem hp]
  rfl
theorem nat_back' (X : List Nat) : (X.map Int.ofNat).map Int.toNat = X := by
  rw [List.map_map]
  exact List.map_id _
/-- A group of all positions. -/
theorem group_all {a : Arr} {x red : Int} (h : (reduceR a x red).2 = 0) (g : List Int) (hg : g = (List.range ((a.1.map Int.toNat).getD x.toNat 0)).map Int.ofNat) :
    groupR a x red [g] = ((a.1.set x.toNat 1, (reduceR a x red).1.2), 0) := by
  obtain ⟨h1, h2, h3⟩ := reduceR_err h
  have hx : x.toNat < a.1.length := by have := h2.1; omega
  have hn : g.map Int.toNat = List.range ((a.1.map Int.toNat).getD x.toNat 0) := by rw [hg]; exact nat_back' _
  have hd : ∀ g' ∈ [g], Dist g' ((a.1.map Int.toNat).getD x.toNat 0) := fun g' hg' => by
    rw [List.mem_singleton] at hg'
    subst hg'
    subst hg
    refine ⟨fun z hz => ?_, ?_⟩
    · obtain ⟨j, hj, rfl⟩ := List.mem_map.1 hz
      have := List.mem_range.1 hj
      exact ⟨Int.natCast_nonneg _, Int.ofNat_lt.2 this⟩
    · exact List.pairwise_map.2 (List.Pairwise.imp (fun hab e => hab (Int.ofNat.inj e)) List.nodup_range)
  have hs : VS (a.1.set x.toNat (([g].length : Nat) : Int)) := (VS_set1 h1.1 hx).2 h3
  have key : alongV (a.1.map Int.toNat) a.2 x.toNat red 1 (grp [g]) = alongV (a.1.map Int.toNat) a.2 x.toNat red 1 (fun _ => List.range ((a.1.map Int.toNat).getD x.toNat 0)) := by
    unfold alongV
    refine tab_congr _ fun I hI => ?_
    have hI0 : I.getD x.toNat 0 = 0 := by
      have := ((inside_iff _ _).1 hI).2 x.toNat (by rw [List.length_set, List.length_map]; exact hx)
      rw [List.getD_eq_getElem?_getD (l := List.set _ _ _), List.getElem?_set_self (by rw [List.length_map]; exact hx)] at this
      change _ < 1 at this
      omega
    show redT red (numsT (alV _ _ _ I (grp [g] (I.getD x.toNat 0)))) = _
    rw [hI0]
    unfold grp
    show redT red (numsT (alV _ _ _ I (g.map Int.toNat))) = _
    rw [hn]
  rw [groupR_ok h1 ⟨h2, hd⟩ hs, reduceR_ok h1 h2 h3]
  show ((a.1.set x.toNat 1, alongV (a.1.map Int.toNat) a.2 x.toNat red 1 (grp [g])), (0 : Int)) = _
  rw [key]

/-- The sum along an axis. -/
noncomputable def sm (S : List Nat) (V : List ByteArray) (x : Nat) (J : List Nat) : Rat := rsum ((List.range (S.getD x 0)).map fun p => qv (V.getD (place S (J.insertIdx x p)) ⟨#[]⟩))
theorem along_sum {S : List Nat} {V : List ByteArray} {x : Nat} (hx : x < S.length) : alongV S V x 1 1 (fun _ => List.range (S.getD x 0)) = tab (S.eraseIdx x) fun J => putT (sm S V x J) := by
  unfold alongV
  rw [tab_set1 S x hx]
  refine tab_congr _ fun J hJ => ?_
  have hJl := inside_len _ _ hJ
  have hl := eraseIdx_len hx
  show putT (rsum (numsT (alV S V x (J.insertIdx x 0) (List.range (S.getD x 0))))) = _
  rw [rsum_nums]
  unfold alV sm
  rw [List.map_map]
  congr 2
  refine List.map_congr_left fun p hp => ?_
  show qv (V.getD (place S ((J.insertIdx x 0).set x p)) ⟨#[]⟩) = _
  rw [ins_set J x 0 p (by omega)]
theorem qv_put {q : Rat} (h : Short q) : qv (putT q) = q := by
  unfold qv
  rw [if_pos (put_num h).1, (put_num h).2]
theorem sum_twice {S : List Nat} {V : List ByteArray} {x y : Nat} {K : List Nat} (hK : ∀ r, r < (S.eraseIdx x).getD y 0 → Inside (S.eraseIdx x) (K.insertIdx y r))
    (hn : ∀ s ∈ tab (S.eraseIdx x) fun J => putT (sm S V x J), s ≠ ⟨#[]⟩) :
    sm (S.eraseIdx x) (tab (S.eraseIdx x) fun J => putT (sm S V x J)) y K = rsum ((List.range ((S.eraseIdx x).getD y 0)).map fun r => sm S V x (K.insertIdx y r)) := by
  unfold sm
  congr 1
  refine List.map_congr_left fun r hr => ?_
  have hi := hK r (List.mem_range.1 hr)
  have ht := tab_at (S.eraseIdx x) (fun J => putT (rsum ((List.range (S.getD x 0)).map fun p => qv (V.getD (place S (J.insertIdx x p)) ⟨#[]⟩)))) hi
  rw [List.getD_eq_getElem?_getD (l := tab _ _), ht]
  exact qv_put (putT_short (hn _ (List.mem_of_getElem? ht)))
theorem sums_swap {S : List Nat} {V : List ByteArray} {x y : Nat} (hxy : x ≤ y) (hy : y + 1 < S.length)
    (h1 : ∀ s ∈ tab (S.eraseIdx x) fun J => putT (sm S V x J), s ≠ ⟨#[]⟩) (h2 : ∀ s ∈ tab (S.eraseIdx (y + 1)) fun J => putT (sm S V (y + 1) J), s ≠ ⟨#[]⟩) {K : List Nat} (hK : Inside ((S.eraseIdx x).eraseIdx y) K) :
    sm (S.eraseIdx x) (tab (S.eraseIdx x) fun J => putT (sm S V x J)) y K = sm (S.eraseIdx (y + 1)) (tab (S.eraseIdx (y + 1)) fun J => putT (sm S V (y + 1) J)) x K := by
  have lx := eraseIdx_len (show x < S.length by omega)
  have ly := eraseIdx_len hy
  have lxy := eraseIdx_len (show y < (S.eraseIdx x).length by omega)
  have hKl := inside_len _ _ hK
  have e1 : (S.eraseIdx x).getD y 0 = S.getD (y + 1) 0 := erase_getD_ge hxy
  have e2 : (S.eraseIdx (y + 1)).getD x 0 = S.getD x 0 := erase_getD_lt (by omega)
  rw [sum_twice (fun r hr => inside_ins _ _ _ _ (by omega) hK hr) h1, sum_twice (fun r hr => inside_ins _ _ _ _ (by omega) (by rw [erase2 S x y hxy]; exact hK) hr) h2]
  rw [e1, e2]
  unfold sm
  rw [rsum_swap]
  congr 1
  refine List.map_congr_left fun p _ => ?_
  congr 1
  refine List.map_congr_left fun r _ => ?_
  rw [ins2 K x y p r hxy (by omega)]
theorem along_len (S : List Nat) (V : List ByteArray) (x : Nat) (red : Int) (n : Nat) (pos : Nat → List Nat) : (alongV S V x red n pos).length = Ix.prod (S.set x n) := by unfold alongV; rw [tab_len]
theorem along_vals {S : List Nat} {V : List ByteArray} {x : Nat} {red : Int} {n : Nat} {pos : Nat → List Nat} {s : ByteArray} (hs : s ∈ alongV S V x red n pos) : IsVal s.data.toList := by
  unfold alongV tab at hs
  obtain ⟨k, _, rfl⟩ := List.mem_map.1 hs
  exact (valB_iff _).1 (redT_val _ _)
theorem reduce_VA {a : Arr} {x red : Int} (h : (reduceR a x red).2 = 0) : VA (reduceR a x red).1 := by
  obtain ⟨h1, h2, h3⟩ := reduceR_err h
  have hx : x.toNat < a.1.length := by have := h2.1; omega
  rw [reduceR_ok h1 h2 h3]
  generalize hY : alongV (a.1.map Int.toNat) a.2 x.toNat red 1 (fun _ => List.range ((a.1.map Int.toNat).getD x.toNat 0)) = Y
  refine ⟨h3, ?_, fun s hs => along_vals (by rw [hY]; exact hs)⟩
  show Y.length = Ix.prod ((a.1.eraseIdx x.toNat).map Int.toNat)
  rw [← hY, along_len, map_erase]
  exact prod_set1 _ _ (by rw [List.length_map]; exact hx)
/-- Sums along two dimensions do not depend on which one is first. -/
theorem sums_law {a : Arr} {lo hi : Nat} (hlh : lo < hi) (h1 : (reduceR a lo 1).2 = 0) (h2 : (reduceR a hi 1).2 = 0) (n1 : ∀ s ∈ (reduceR a lo 1).1.2, s ≠ ⟨#[]⟩) (n2 : ∀ s ∈ (reduceR a hi 1).1.2, s ≠ ⟨#[]⟩) :
    reduceR (reduceR a lo 1).1 ((hi : Int) - 1) 1 = reduceR (reduceR a hi 1).1 lo 1 := by
  have v1 := reduce_VA h1
  have v2 := reduce_VA h2
  obtain ⟨ha, hA, hs1⟩ := reduceR_err h1
  obtain ⟨-, hB, hs2⟩ := reduceR_err h2
  obtain ⟨S, V⟩ := a
  have hhi : hi < S.length := by have := hB.1.2; exact_mod_cast this
  obtain ⟨y, rfl⟩ : ∃ y, hi = y + 1 := ⟨hi - 1, by omega⟩
  have ey : ((y + 1 : Nat) : Int) - 1 = (y : Int) := by omega
  rw [ey]
  rw [reduceR_ok ha hA hs1] at v1 n1 ⊢
  rw [reduceR_ok ha hB hs2] at v2 n2 ⊢
  simp only [Int.toNat_natCast] at v1 v2 n1 n2 hs1 hs2 ⊢
  have hS : (S.map Int.toNat).length = S.length := List.length_map _
  rw [along_sum (by omega)] at v1 n1 ⊢
  rw [along_sum (by omega)] at v2 n2 ⊢
  have lx := eraseIdx_len (show lo < S.length by omega)
  have ly := eraseIdx_len hhi
  have okA : AxOk (S.eraseIdx lo, tab ((S.map Int.toNat).eraseIdx lo) fun J => putT (sm (S.map Int.toNat) V lo J)) (y : Int) 1 := ⟨⟨by omega, by show (y : Int) < ((S.eraseIdx lo).length : Int); omega⟩, by decide, by decide⟩
  have okB : AxOk (S.eraseIdx (y + 1), tab ((S.map Int.toNat).eraseIdx (y + 1)) fun J => putT (sm (S.map Int.toNat) V (y + 1) J)) (lo : Int) 1 := ⟨⟨by omega, by show (lo : Int) < ((S.eraseIdx (y + 1)).length : Int); omega⟩, by decide, by decide⟩
  have hsh : (S.eraseIdx (y + 1)).eraseIdx lo = (S.eraseIdx lo).eraseIdx y := erase2 S lo y (by omega)
  by_cases hvs : VS ((S.eraseIdx lo).eraseIdx y)
  · rw [reduceR_ok v1 okA (by simpa using hvs), reduceR_ok v2 okB (by simpa [hsh] using hvs)]
    simp only [Int.toNat_natCast]
    rw [hsh, map_erase, map_erase, along_sum (by rw [← map_erase, List.length_map]; omega), along_sum (by rw [← map_erase, List.length_map]; omega), erase2 _ lo y (by omega)]
    congr 2
    exact tab_congr _ fun K hK => by rw [sums_swap (by omega) (by omega) n1 n2 hK]
  · rw [reduceR_shape v1 okA (by simpa using hvs), reduceR_shape v2 okB (by simpa [hsh] using hvs)]

theorem numT_put {q : Rat} (h : Short q) : numT (putT q) = [q] := by
  unfold numT
  rw [if_pos (put_num h).1, (put_num h).2]
theorem numT_nil : numT ⟨#[]⟩ = [] := by
  unfold numT
  rw [if_neg (by rw [empty_not_num]; decide)]
theorem redT_bst {red : Int} (hr : red = 3 ∨ red = 4) (l : List Rat) : redT red l = match bst red l with | none => ⟨#[]⟩ | some m => putT m := by
  unfold redT
  rw [if_neg (by omega), if_neg (by omega)]
  by_cases h : l = []
  · rw [if_pos h, h]; rfl
  · rw [if_neg h, if_neg (by omega)]
    cases bst red l <;> rfl
theorem redT_nums {red : Int} (hr : red = 3 ∨ red = 4) {l : List Rat} (hs : ∀ q ∈ l, Short q) : numT (redT red l) = (bst red l).toList := by
  rw [redT_bst hr]
  cases h : bst red l with
  | none => exact numT_nil
  | some m => exact numT_put (hs m (bst_mem hr h))
theorem bst_join {red : Int} (hr : red = 3 ∨ red = 4) (l m : List Rat) : bst red ((bst red l).toList ++ (bst red m).toList) = bst red (l ++ m) := by
  by_cases hl : l = []
  · subst hl
    show bst red (bst red m).toList = bst red m
    cases h : bst red m <;> rfl
  · by_cases hm : m = []
    · subst hm
      rw [List.append_nil, show (bst red []).toList = [] from rfl, List.append_nil]
      cases h : bst red l <;> rfl
    · obtain ⟨a, h1, h2, h3⟩ := bst_some hr hl
      obtain ⟨b, k1, k2, k3⟩ := bst_some hr hm
      rw [h1, k1]
      show (if Better red b a then some b else some a) = _
      by_cases hb : Better red b a
      · rw [if_pos hb]
        refine (bst_eq hr (List.mem_append_right _ k2) fun q hq => ?_).symm
        rcases List.mem_append.1 hq with h | h
        · have := h3 q h
          unfold Better at hb this ⊢
          grind
        · exact k3 q h
      · rw [if_neg hb]
        refine (bst_eq hr (List.mem_append_left _ h2) fun q hq => ?_).symm
        rcases List.mem_append.1 hq with h | h
        · exact h3 q h
        · have := k3 q h
          unfold Better at hb this ⊢
          grind
theorem parts_best {red : Int} (hr : red = 3 ∨ red = 4) (A B : List ByteArray) : redT red (numsT [redT red (numsT A), redT red (numsT B)]) = redT red (numsT (A ++ B)) := by
  rw [show numsT [redT red (numsT A), redT red (numsT B)] = numT (redT red (numsT A)) ++ (numT (redT red (numsT B)) ++ []) from rfl, List.append_nil, redT_nums hr (fun q => numsT_short), redT_nums hr (fun q => numsT_short), redT_bst hr, redT_bst hr (numsT (A ++ B)), bst_join hr, numsT_app]
theorem short_nat {n : Nat} (h : n < 10 ^ 40) : Short (((n : Nat) : Int) : Rat) := by
  refine ⟨?_, ?_⟩
  · rw [nm_int]
    exact decDigits_len_le (by decide) (by simpa using h)
  · rw [dn_int]
    exact decDigits_len_le (by decide) (by decide)
theorem parts_count {A B : List ByteArray} (hA : A.length ≤ 5000) (hB : B.length ≤ 5000) :
    numB (redT 5 (numsT A)) = true ∧ numB (redT 5 (numsT B)) = true ∧ putT (textRat (redT 5 (numsT A)).data.toList + textRat (redT 5 (numsT B)).data.toList) = redT 5 (numsT (A ++ B)) := by
  have h1 := numsT_len A
  have h2 := numsT_len B
  have a1 := put_num (short_nat (n := (numsT A).length) (by omega))
  have b1 := put_num (short_nat (n := (numsT B).length) (by omega))
  show numB (putT _) = true ∧ numB (putT _) = true ∧ putT (textRat (putT (((numsT A).length : Int) : Rat)).data.toList + textRat (putT (((numsT B).length : Int) : Rat)).data.toList) = putT (((numsT (A ++ B)).length : Int) : Rat)
  refine ⟨a1.1, b1.1, ?_⟩
  rw [a1.2, b1.2, numsT_app, List.length_append]
  congr 1
  push_cast
  rfl
end Go.Proofs.YtgnffedncjjkfaaGreatDoor

namespace Go.Proofs.YtgnffedncjjkfaaGreatDoor
open Go.RowKit Ix Ar

set_option maxRecDepth 100000 in
set_option maxHeartbeats 3200000 in
theorem span_any (lo hi : Nat) (w : World) (h : hi ≤ 1000000) :
    Calls Tryz.prog 106 #[.int .i64 lo, .int .i64 hi] w fun e w' => Below w.heap.size w w' ∧ ∃ u, e = .returned u ∧ IsI w' w'.heap.size u ((List.range' lo (hi - lo)).map Int.ofNat) := by
  obtain ⟨i0, hi0, hz0, hz1, hz2⟩ := info_parts Tryz.int_info
  go_enter Tryz.func106, Tryz.ntmps106
  go_wp2_with fail
  go_loopw [5, 6] (fun u i wr => ∃ k : Nat, k ≤ hi - lo ∧ i = .int .i64 ((lo : Int) + k) ∧ wr.ownsRow w.heap.size 3 1 u k (zints ((List.range' lo k).map Int.ofNat)) ∧ Below w.heap.size w wr) (fun _ i _ => hi - (intOf i).toNat)
  case atStart => exact ⟨0, Nat.zero_le _, by simp, World.ownsRow_nil _ _ _ _, Below.refl _ _⟩
  case round =>
    obtain ⟨k, hk, rfl, hO, hB⟩ := hrel
    by_cases hlt : k < hi - lo
    · have hix : (lo : Int) + k = ((lo + k : Nat) : Int) := by omega
      have HR : Hid (zints ((List.range' lo (k + 1)).map Int.ofNat) = zints ((List.range' lo k).map Int.ofNat) ++ [.int .i64 ((lo + k : Nat) : Int)]) := by
        show _ = _
        rw [List.range'_1_concat, List.map_append, zints_app]; rfl
      have hlh : lo + k < hi := by omega
      rw [hix]
      obtain ⟨m, hm⟩ : ∃ m, m = lo + k := ⟨_, rfl⟩
      rw [← hm] at hlh HR ⊢
      have HOA := Lib.hid (hO.alloc (.cells #[.int .i64 (m : Int)] 3))
      have hmi : (m : Int) < (hi : Int) := by omega
      have HM := Lib.hid hm
      have hk6 : k ≤ 1000000 := by omega
      have HLT := Lib.hid hlt
      clear hO hix hm hlt hk
      go_wp2_with (at_builtin; go_loud (have hz := hB.size; refine wpL_append _ rfl (.tmp 13) (.tmp 15) _ rfl w.heap.size 3 i0 _ 1 8 Tryz.underlying22 hi0 hz0 hz1 hz2 rfl (by omega) _ k _ rfl HOA.out _ 1 1 [.int .i64 (m : Int)] rfl rfl (Rd.of_new wr [.int .i64 (m : Int)] 3) (zints_one [(m : Int)]) (by unfold maxLen; omega) (by omega) (by simp only [World.size_alloc]; omega) ?_; intro v1 w7 hown2 hg1 hat1; have hB2 := below_app (hB.alloc hz _) hg1 (by simp only [World.size_alloc]; omega) HOA.out (Nat.le_refl _); clear hg1 hat1))
      have HO2 : Hid (w7.ownsRow w.heap.size 3 1 v1 (k + 1) (zints ((List.range' lo (k + 1)).map Int.ofNat))) := by
        show w7.ownsRow _ _ _ _ _ _
        rw [HR.out]; exact hown2
      clear hown2 HOA HR hB
      go_wp2
      go_roundw
      case rel => exact ⟨k + 1, by have := HLT.out; omega, by (have := HM.out; congr 1; omega), HO2.out, hB2⟩
      case measure => simp [intOf]; omega
    · obtain rfl : k = hi - lo := by omega
      have hT := Lib.hid (IsI.of_own hO)
      have hge : ¬ (lo : Int) + ((hi - lo : Nat) : Int) < (hi : Int) := by omega
      clear hO
      go_wp2
      go_ret
      exact ⟨hB, _, rfl, hT.out⟩

noncomputable def chkR (a : Arr) (x red : Int) : Int := open Classical in if VA a then (if AxOk a x red then 0 else 2) else 60
set_option maxRecDepth 100000 in
set_option maxHeartbeats 800000 in
theorem checked_any (a : Arr) (x red : Int) (va : Value) (w : World) (ha : IsA w w.heap.size va a) (hi : InA a) (he : Env w) :
    Calls Tryz.prog 103 #[va, .int .i64 x, .int .i64 red] w fun e w' => Below w.heap.size w w' ∧ e = .returned (.int .i64 (chkR a x red)) := by
  obtain ⟨A, c, A', c', rfl, hc, hc'⟩ := ha.form
  obtain ⟨qv, hqv⟩ : ∃ b : Bool, b = true ↔ VA a := by classical exact ⟨decide _, decide_eq_true_iff⟩
  have hb0 := below_alloc w (.cells #[.slice A a.1.length c, .slice A' a.2.length c'] 25)
  have VV := Lib.hid (valid_any a _ _ (ha.next hb0) hi (he.next hb0) qv hqv)
  have k0 := Bk.new w 25 #[Value.slice A a.1.length c, .slice A' a.2.length c']
  have IR := Lib.hid (fun W => reduction_any red W)
  have HBAD : Hid (qv = false → chkR a x red = 60) := fun h => if_neg fun h' => by rw [hqv.2 h'] at h; cases h
  have HARG : Hid (qv = true → ¬ AxOk a x red → chkR a x red = 2) := fun h k => by unfold chkR; rw [if_pos (hqv.1 h), if_neg k]
  have HOK : Hid (qv = true → AxOk a x red → chkR a x red = 0) := fun h k => by unfold chkR; rw [if_pos (hqv.1 h), if_pos k]
  have hl := hi.shape
  unfold maxLen at hl
  unfold AxOk at HARG HOK
  generalize chkR a x red = R at *
  obtain ⟨S, V⟩ := a
  simp only at *
  clear ha hqv hi he
  cases qv
  · obtain rfl := HBAD.out rfl
    obtain ⟨d0, d1⟩ := bkA k0
    clear HBAD HARG HOK IR k0
    go_enter Tryz.func103, Tryz.ntmps103
    go_wp2_with fail
    refine VV.out.mono ?_
    rintro e w2 ⟨hb2, rfl⟩
    have hB2 := hb0.trans (hb2.mono hb0.size)
    clear d0 d1
    go_wp2
    go_ret
    exact ⟨hB2, rfl⟩
  obtain ⟨d0, d1⟩ := bkA k0
  by_cases h0 : x < 0
  · obtain rfl := HARG.out rfl (fun h => by omega)
    clear HBAD HARG HOK IR
    go_enter Tryz.func103, Tryz.ntmps103
    go_wp2_with fail
    refine VV.out.mono ?_
    rintro e w2 ⟨hb2, rfl⟩
    have hB2 := hb0.trans (hb2.mono hb0.size)
    clear d0 d1 k0
    go_wp2
    go_ret
    exact ⟨hB2, rfl⟩
  by_cases h1 : x < (S.length : Int)
  rotate_left
  · obtain rfl := HARG.out rfl (fun h => by omega)
    clear HBAD HARG HOK IR
    go_enter Tryz.func103, Tryz.ntmps103
    go_wp2_with fail
    refine VV.out.mono ?_
    rintro e w2 ⟨hb2, rfl⟩
    have hB2 := hb0.trans (hb2.mono hb0.size)
    have k2 := k0.next' hb2
    clear d0 d1 k0
    obtain ⟨d0, d1⟩ := bkA k2
    go_wp2
    go_ret
    exact ⟨hB2, rfl⟩
  by_cases hok : 1 ≤ red ∧ red ≤ 5
  · obtain rfl := HOK.out rfl ⟨⟨by omega, h1⟩, hok⟩
    rw [decide_eq_true hok] at IR
    clear HBAD HARG HOK hok
    go_enter Tryz.func103, Tryz.ntmps103
    go_wp2_with fail
    refine VV.out.mono ?_
    rintro e w2 ⟨hb2, rfl⟩
    have hB2 := hb0.trans (hb2.mono hb0.size)
    have k2 := k0.next' hb2
    clear d0 d1 k0
    obtain ⟨d0, d1⟩ := bkA k2
    go_wp2_with fail
    refine (IR.out w2).mono ?_
    rintro e w3 ⟨rfl, rfl⟩
    go_wp2
    go_ret
    exact ⟨hB2, rfl⟩
  · obtain rfl := HARG.out rfl (fun h => hok h.2)
    rw [decide_eq_false hok] at IR
    clear HBAD HARG HOK hok
    go_enter Tryz.func103, Tryz.ntmps103
    go_wp2_with fail
    refine VV.out.mono ?_
    rintro e w2 ⟨hb2, rfl⟩
    have hB2 := hb0.trans (hb2.mono hb0.size)
    have k2 := k0.next' hb2
    clear d0 d1 k0
    obtain ⟨d0, d1⟩ := bkA k2
    go_wp2_with fail
    refine (IR.out w2).mono ?_
    rintro e w3 ⟨rfl, rfl⟩
    go_wp2
    go_ret
    exact ⟨hB2, rfl⟩

theorem reduce1_any (k : Int) (b n c : Nat) (A : Option Addr) (w : World) (h : w.cell? ⟨b, 0, none⟩ = some (.slice A n c)) :
    Calls Tryz.prog 109 #[.int .i64 k, .pointer (some ⟨b, 0, none⟩)] w fun e w' => w = w' ∧ e = .returned (.slice A n c) := by
  go_enter Tryz.func109, Tryz.ntmps109
  go_wp2
  go_ret
  exact ⟨rfl, rfl⟩
theorem group1_any (k : Nat) (b n c m c2 : Nat) (ad : Addr) (A2 : Option Addr) (w : World) (hk : k < n) (h : w.cell? ⟨b, 0, none⟩ = some (.slice (some ad) n c)) (h2 : w.cell? (ad.add k) = some (.slice A2 m c2)) :
    Calls Tryz.prog 114 #[.int .i64 k, .pointer (some ⟨b, 0, none⟩)] w fun e w' => w = w' ∧ e = .returned (.slice A2 m c2) := by
  have hk1 : (k : Int) < (n : Int) := by omega
  have hk0 : (0 : Int) ≤ (k : Int) := by omega
  go_enter Tryz.func114, Tryz.ntmps114
  go_wp2
  go_ret
  exact ⟨rfl, rfl⟩
theorem window1_any (k b : Nat) (n : Int) (w : World) (hk : k ≤ 10000) (hn : 1 ≤ n) (hn2 : n ≤ 9223372036854775807) (h : w.cell? ⟨b, 0, none⟩ = some (.int .i64 n)) :
    Calls Tryz.prog 105 #[.int .i64 k, .pointer (some ⟨b, 0, none⟩)] w fun e w' => Below w.heap.size w w' ∧ ∃ u, e = .returned u ∧ IsI w' w'.heap.size u ((wnd n k).map Int.ofNat) := by
  have ww1 : IntKind.i64.wrap ((k : Int) - n) = (k : Int) - n := IntWalk.i64_in _ (by omega)
  have ww2 : IntKind.i64.wrap ((k : Int) - n + 1) = (k : Int) - n + 1 := IntWalk.i64_in _ (by omega)
  have SP := span_any (k + 1 - n.toNat) (k + 1) w (by omega)
  rw [show ((k + 1 - n.toNat : Nat) : Int) = max 0 ((k : Int) - n + 1) by omega, show ((k + 1 : Nat) : Int) = (k : Int) + 1 by omega] at SP
  replace SP := Lib.hid SP
  unfold wnd
  go_enter Tryz.func105, Tryz.ntmps105
  go_wp2_with fail
  refine SP.out.mono ?_
  rintro e w2 ⟨hb2, u, rfl, hu⟩
  go_wp2
  go_ret
  exact ⟨hb2, _, rfl, hu⟩
end Go.Proofs.YtgnffedncjjkfaaGreatDoor

namespace Go.Proofs.YtgnffedncjjkfaaGreatDoor
open Go.RowKit Ix Ar

theorem place_mono : ∀ (S T I : List Nat), S.length = T.length → (∀ j, S.getD j 0 ≤ T.getD j 0) → place S I ≤ place T I
  | [], [], _, _, _ => Nat.le_refl _
  | [], _ :: _, _, h, _ => by simp at h
  | _ :: _, [], _, h, _ => by simp at h
  | s :: S, t :: T, [], _, _ => Nat.le_refl _
  | s :: S, t :: T, i :: I, h, k => by
    have h1 : S.length = T.length := by simpa using h
    have h2 : ∀ j, S.getD j 0 ≤ T.getD j 0 := fun j => by simpa using k (j + 1)
    exact Nat.add_le_add (Nat.mul_le_mul_left _ (prod_mono S T h1 h2)) (place_mono S T I h1 h2)
theorem set_getD {S : List Nat} {x n j : Nat} (hx : x < S.length) : (S.set x n).getD j 0 = if j = x then n else S.getD j 0 := by
  rw [List.getD_eq_getElem?_getD, List.getElem?_set]
  by_cases h : x = j
  · subst h; rw [if_pos rfl, if_pos hx, if_pos rfl]; rfl
  · rw [if_neg h, if_neg (fun e => h e.symm), List.getD_eq_getElem?_getD]
/-- The place of an index of the new shape, in the old one's strides. -/
theorem along_place {S : List Nat} {x n : Nat} {I : List Nat} (hS : ∀ s ∈ S, s ≤ 1024) (hx : x < S.length) (hn : n ≤ 1024) (hp : Ix.prod (S.set x n) ≤ 4096) (hI : Inside (S.set x n) I) : place S I ≤ 4194304 ∧ I.getD x 0 < n := by
  obtain ⟨hl, hj⟩ := (inside_iff _ _).1 hI
  rw [List.length_set] at hl hj
  have hxn := hj x hx
  rw [set_getD hx, if_pos rfl] at hxn
  refine ⟨?_, hxn⟩
  have hM : Inside (S.set x 1024) I := by
    refine (inside_iff _ _).2 ⟨by rw [List.length_set]; exact hl, fun j hjl => ?_⟩
    rw [List.length_set] at hjl
    have := hj j hjl
    rw [set_getD hx] at this ⊢
    split
    · rename_i e; rw [if_pos e] at this; omega
    · rename_i e; rwa [if_neg e] at this
  have h1 : place S I ≤ place (S.set x 1024) I := place_mono _ _ _ (by rw [List.length_set]) (fun j => by
    rw [set_getD hx]
    split
    · rename_i e
      subst e
      rw [getD_in hx]
      exact hS _ (List.getElem_mem hx)
    · exact Nat.le_refl _)
  have h2 := place_lt _ _ hM
  have h3 : ∀ m, Ix.prod (S.set x m) = m * Ix.prod (S.eraseIdx x) := fun m => by
    rw [prod_erase_le (S.set x m) x (by rw [List.length_set]; exact hx), set_getD hx, if_pos rfl, List.eraseIdx_set_eq]
  rw [h3] at h2 hp
  have h4 : Ix.prod (S.eraseIdx x) ≤ n * Ix.prod (S.eraseIdx x) := Nat.le_mul_of_pos_left _ (by omega)
  omega
theorem stride_le {S : List Nat} {x : Nat} (h4 : S.length ≤ 4) (hS : ∀ s ∈ S, s ≤ 1024) (hx : x < S.length) : (strides S).getD x 0 ≤ 1073741824 := by
  rw [strides_at S x hx]
  have h1 := prod_le (M := 1024) (S.drop (x + 1)) (fun s hs => hS s (List.mem_of_mem_drop hs))
  have h2 : (S.drop (x + 1)).length ≤ 3 := by rw [List.length_drop]; omega
  exact Nat.le_trans h1 (Nat.pow_le_pow_right (by decide) h2)

theorem alV_len (S : List Nat) (V : List ByteArray) (x : Nat) (I ps : List Nat) : (alV S V x I ps).length = ps.length := by unfold alV; rw [List.length_map]
theorem alV_next {S : List Nat} {V : List ByteArray} {x : Nat} {I ps : List Nat} {k : Nat} (h : k < ps.length) : (alV S V x I ps).take (k + 1) = (alV S V x I ps).take k ++ [V.getD (place S (I.set x ps[k])) ⟨#[]⟩] := by
  unfold alV
  rw [← List.map_take, ← List.map_take, List.take_succ_eq_append_getElem h, List.map_append]
  rfl

set_option maxRecDepth 100000 in
set_option maxHeartbeats 3200000 in
theorem along1_any (S : List Int) (V : List ByteArray) (x : Nat) (red : Int) (I ps : List Nat) (fb xb pb ab rb g IX B : Nat) (A' : Option Addr) (c' : Nat) (pf : FuncId) (caps : Array Value) (eg : ∀ args w, (callFunc pf args).run Tryz.prog w = .ok (.enter pf args) w) (w : World)
    (hV : VS S) (hl : V.length = Ix.prod (S.map Int.toNat)) (hv : ∀ s ∈ V, s.size ≤ 300) (hx : x < S.length) (hI : I.length = S.length) (hpl : place (S.map Int.toNat) I ≤ 4194304) (hix : I.getD x 0 ≤ 1024)
    (hps : ∀ p ∈ ps, p ≤ 1024 ∧ Inside (S.map Int.toNat) (I.set x p)) (hpl2 : ps.length ≤ 5000) (h1 : 1 ≤ red) (h5 : red ≤ 5)
    (hf : w.cell? ⟨fb, 0, none⟩ = some (.slice (some ⟨g, 0, none⟩) S.length S.length)) (hxc : w.cell? ⟨xb, 0, none⟩ = some (.int .i64 x)) (hpc : w.cell? ⟨pb, 0, none⟩ = some (.func (.func pf) #[] caps)) (hac : w.cell? ⟨ab, 1, none⟩ = some (.slice A' V.length c')) (hrc : w.cell? ⟨rb, 0, none⟩ = some (.int .i64 red))
    (hr' : Rd w B A' (strs V)) (hg : Rd w B (some ⟨g, 0, none⟩) (ints .i64 (strides (S.map Int.toNat)))) (hIX : Bk w IX 3 (ints .i64 I).toArray) (hB : B ≤ w.heap.size) (he : Env w) (her : EnvR w)
    (hpos : ∀ W, Below w.heap.size w W → Calls Tryz.prog pf (#[.int .i64 (I.getD x 0 : Nat)] ++ caps) W fun e W' => Below W.heap.size W W' ∧ ∃ u, e = .returned u ∧ IsI W' W'.heap.size u (ps.map Int.ofNat)) :
    Calls Tryz.prog 148 #[.slice (some ⟨IX, 0, none⟩) I.length I.length, .pointer (some ⟨fb, 0, none⟩), .pointer (some ⟨xb, 0, none⟩), .pointer (some ⟨pb, 0, none⟩), .pointer (some ⟨ab, 0, none⟩), .pointer (some ⟨rb, 0, none⟩)] w fun e w' =>
      Below w.heap.size w w' ∧ e = .returned (.string (redT red (numsT (alV (S.map Int.toNat) V x I ps)))) := by
  obtain ⟨i0, hi0, hz0, hz1, hz2⟩ := info_parts Tryz.str_info
  obtain ⟨D, hD⟩ : ∃ D, D = strides (S.map Int.toNat) := ⟨_, rfl⟩
  have hDl : D.length = S.length := by rw [hD, strides_len, List.length_map]
  have hdot : dot I D = place (S.map Int.toNat) I := by rw [hD]; exact dot_eq _ _ (by rw [hI, List.length_map])
  have hSN : ∀ s ∈ S.map Int.toNat, s ≤ 1024 := fun s hs => by
    obtain ⟨z, hz, rfl⟩ := List.mem_map.1 hs
    have := hV.2.1 z hz; omega
  have hdx : D.getD x 0 ≤ 1073741824 := by rw [hD]; exact stride_le (by rw [List.length_map]; exact hV.1) hSN (by rw [List.length_map]; exact hx)
  have HPS := Lib.hid (fun k (hk : k < ps.length) => show ps[k] ≤ 1024 ∧ place (S.map Int.toNat) (I.set x ps[k]) < V.length ∧ place (S.map Int.toNat) (I.set x ps[k]) + I.getD x 0 * D.getD x 0 = dot I D + ps[k] * D.getD x 0 from by
    obtain ⟨a1, a2⟩ := hps _ (List.getElem_mem hk)
    refine ⟨a1, by rw [hl]; exact place_lt _ _ a2, ?_⟩
    rw [hdot, hD]
    exact place_set _ _ _ _ (by rw [List.length_map]; exact hx) (by rw [hI, List.length_map]))
  have hdl : dot I D ≤ 1000000000000 := by rw [hdot]; omega
  rw [← hD] at hg
  have HVL : Hid (V.length ≤ 4096) := by show _ ≤ _; rw [hl]; exact hV.2.2
  have hIXr := (hIX.rd)
  rw [show (ints .i64 I).toArray.toList = ints .i64 I from rfl] at hIXr
  have PL := Lib.hid (fun W (hW : Below w.heap.size w W) => place_any I D (some ⟨IX, 0, none⟩) (some ⟨g, 0, none⟩) I.length D.length w.heap.size B W (by rw [hI, hDl]) (by rw [hI]; exact hV.1) hdl (hIXr.below hW) (hg.below (hW.mono hB)))
  rw [hDl] at PL
  have cI : w.cell? ⟨IX, x, none⟩ = some (.int .i64 ((I.getD x 0 : Nat) : Int)) := by
    have := hIX.cell x
    rwa [ints_getD .i64 _ (by rw [hI]; exact hx)] at this
  have cD : w.cell? ⟨g, x, none⟩ = some (.int .i64 ((D.getD x 0 : Nat) : Int)) := by
    obtain ⟨adg, eg', _, hcg⟩ := hg.int (j := x) (by rw [hDl]; exact hx)
    injection eg' with eg'
    subst eg'
    rwa [addr_mk, Nat.zero_add] at hcg
  have FC := Lib.hid (fun W (hW : Below w.heap.size w W) => show ((((W.cell? ⟨fb, 0, none⟩ = some (.slice (some ⟨g, 0, none⟩) S.length S.length) ∧ W.cell? ⟨xb, 0, none⟩ = some (.int .i64 x)) ∧ W.cell? ⟨pb, 0, none⟩ = some (.func (.func pf) #[] caps)) ∧ (W.cell? ⟨ab, 1, none⟩ = some (.slice A' V.length c') ∧ W.cell? ⟨rb, 0, none⟩ = some (.int .i64 red))) ∧ W.cell? ⟨IX, x, none⟩ = some (.int .i64 ((I.getD x 0 : Nat) : Int))) ∧ W.cell? ⟨g, x, none⟩ = some (.int .i64 ((D.getD x 0 : Nat) : Int)) from by
    have l : ∀ {p : Addr} {u : Value}, w.cell? p = some u → W.cell? p = some u := fun {p u} h => (hW.cell (World.block_lt_of_cell? _ _ h)).trans h
    exact ⟨⟨⟨⟨⟨l hf, l hxc⟩, l hpc⟩, l hac, l hrc⟩, l cI⟩, l cD⟩)
  have VC := Lib.hid (fun W (hW : Below w.heap.size w W) m (hm : m < V.length) => show ∃ ad, A' = some ad ∧ W.cell? (ad.add m) = some (.string (V.getD m ⟨#[]⟩)) from by
    obtain ⟨ad, e1, e2, e3⟩ := hr'.str hm
    refine ⟨ad, e1, ?_⟩
    rw [show V.getD m ⟨#[]⟩ = V[m] by rw [List.getD_eq_getElem?_getD, List.getElem?_eq_getElem hm]; rfl]
    exact (hW.cell (p := ad.add m) (World.block_lt_of_cell? _ _ e3)).trans e3)
  have HNX := Lib.hid (fun k (hk : k < ps.length) => alV_next (S := S.map Int.toNat) (V := V) (x := x) (I := I) hk)
  have HALL : Hid ((alV (S.map Int.toNat) V x I ps).take ps.length = alV (S.map Int.toNat) V x I ps) := List.take_of_length_le (by rw [alV_len]; exact Nat.le_refl _)
  have HAS : Hid (∀ s ∈ alV (S.map Int.toNat) V x I ps, s.size ≤ 300) := fun s hs => by
    obtain ⟨p, hp, rfl⟩ := List.mem_map.1 hs
    rw [List.getD_eq_getElem?_getD]
    cases e : V[place (S.map Int.toNat) (I.set x p)]? with
    | none => decide
    | some y => exact hv _ (List.mem_of_getElem? e)
  have RD := Lib.hid (fun W (hW : Below w.heap.size w W) u (hu : IsT W W.heap.size u (alV (S.map Int.toNat) V x I ps)) => reduced_any _ red u W hu (he.next hW) (her.next hW) (by rw [alV_len]; omega) HAS.out h1 h5)
  have HPO := Lib.hid hpos
  have hx0 : (0 : Int) ≤ (x : Int) := by omega
  have hxI : (x : Int) < (I.length : Int) := by omega
  have hxS : (x : Int) < (S.length : Int) := by omega
  generalize alV (S.map Int.toNat) V x I ps = AL at *
  have HEG := Lib.hid eg
  clear hdot hSN hD hf hxc hpc hac hrc hr' hg hIX hIXr he her hpos hV hl hv hI hpl hps h1 h5 cI cD HAS eg
  obtain ⟨i, hi⟩ : ∃ i, i = I.getD x 0 := ⟨_, rfl⟩
  obtain ⟨d, hd⟩ : ∃ d, d = D.getD x 0 := ⟨_, rfl⟩
  obtain ⟨P, hP⟩ : ∃ P, P = dot I D := ⟨_, rfl⟩
  rw [← hi] at hix HPS FC HPO
  rw [← hd] at hdx HPS FC
  rw [← hP] at hdl PL HPS
  clear hi hd hP
  obtain ⟨q, hq⟩ : ∃ q : Nat, q = i * d := ⟨_, rfl⟩
  rw [← hq] at HPS
  have hqb : q ≤ 1099511627776 := by rw [hq]; exact Nat.mul_le_mul hix hdx
  have ww : IntKind.i64.wrap ((i : Int) * (d : Int)) = (q : Int) := by
    rw [show (i : Int) * (d : Int) = (q : Int) by rw [hq]; push_cast; rfl]
    exact IntWalk.i64_in _ (by omega)
  have ww2 : IntKind.i64.wrap ((P : Int) - (q : Int)) = (P : Int) - (q : Int) := IntWalk.i64_in _ (by omega)
  have HX := Lib.hid hx
  clear hq hx
  have hB0 : Below w.heap.size w w.drew := (Below.refl _ _).drew
  obtain ⟨⟨⟨⟨⟨f1, f2⟩, f3⟩, f4, f5⟩, f6⟩, f7⟩ := FC.out w (Below.refl _ _)
  go_enter Tryz.func148, Tryz.ntmps148
  go_wp2_with fail
  refine wp_region_held_drew (S := fun Y => ((Y.cell? ⟨fb, 0, none⟩ = some (.slice (some ⟨g, 0, none⟩) S.length S.length) ∧ Y.cell? ⟨xb, 0, none⟩ = some (.int .i64 x)) ∧ Y.cell? ⟨IX, x, none⟩ = some (.int .i64 ((i : Nat) : Int))) ∧ Y.cell? ⟨g, x, none⟩ = some (.int .i64 ((d : Nat) : Int))) (by kernel_rfl) ⟨⟨⟨f1, f2⟩, f6⟩, f7⟩ (fun hS => ?_)
  clear f1 f2 f3 f4 f5 f6 f7
  generalize w.drew = wd at *
  have PLd := Lib.hid (PL.out wd hB0)
  refine takeA (i := 0) (v := ?_) rfl (by kernel_rfl) (by kernel_rfl) (by kernel_rfl) (fun _ _ _ h => h) (by rfl) (by assumption) ?_ ?_
  rotate_left
  · intro w hSw; (try dsimp only at hSw); go_simp <;> with_reducible rfl
  try simp only [Act.put, List.setIfInBounds_toArray, List.set_cons_zero, List.set_cons_succ]
  refine takeA (i := 1) (v := ?_) rfl (by kernel_rfl) (by kernel_rfl) (by kernel_rfl) (fun _ _ _ h => h) (by rfl) (by assumption) ?_ ?_
  rotate_left
  · intro w hSw; (try dsimp only at hSw); go_simp <;> with_reducible rfl
  try simp only [Act.put, List.setIfInBounds_toArray, List.set_cons_zero, List.set_cons_succ]
  refine takeA (i := 3) (v := ?_) rfl (by kernel_rfl) (by kernel_rfl) (by kernel_rfl) (fun _ _ _ h => h) (by rfl) (by assumption) ?_ ?_
  rotate_left
  · intro w hSw; (try dsimp only at hSw); go_simp <;> with_reducible rfl
  try simp only [Act.put, List.setIfInBounds_toArray, List.set_cons_zero, List.set_cons_succ]
  refine takeA (i := 4) (v := ?_) rfl (by kernel_rfl) (by kernel_rfl) (by kernel_rfl) (fun _ _ _ h => h) (by rfl) (by assumption) ?_ ?_
  rotate_left
  · intro w hSw; (try dsimp only at hSw); go_simp <;> with_reducible rfl
  try simp only [Act.put, List.setIfInBounds_toArray, List.set_cons_zero, List.set_cons_succ]
  refine takeA (i := 5) (v := ?_) rfl (by kernel_rfl) (by kernel_rfl) (by kernel_rfl) (fun _ _ _ h => h) (by rfl) (by assumption) ?_ ?_
  rotate_left
  · intro w hSw; (try dsimp only at hSw); go_simp <;> with_reducible rfl
  try simp only [Act.put, List.setIfInBounds_toArray, List.set_cons_zero, List.set_cons_succ]
  refine takeA (i := 6) (v := ?_) rfl (by kernel_rfl) (by kernel_rfl) (by kernel_rfl) (fun _ _ _ h => h) (by rfl) (by assumption) ?_ ?_
  rotate_left
  · intro w hSw; (try dsimp only at hSw); go_simp <;> with_reducible rfl
  try simp only [Act.put, List.setIfInBounds_toArray, List.set_cons_zero, List.set_cons_succ]
  refine takeA (i := 7) (v := ?_) rfl (by kernel_rfl) (by kernel_rfl) (by kernel_rfl) (fun _ _ _ h => h) (by rfl) (by assumption) ?_ ?_
  rotate_left
  · intro w hSw; (try dsimp only at hSw); go_simp <;> with_reducible rfl
  try simp only [Act.put, List.setIfInBounds_toArray, List.set_cons_zero, List.set_cons_succ]
  refine takeA (i := 8) (v := ?_) rfl (by kernel_rfl) (by kernel_rfl) (by kernel_rfl) (fun _ _ _ h => h) (by rfl) (by assumption) ?_ ?_
  rotate_left
  · intro w hSw; (try dsimp only at hSw); go_simp <;> with_reducible rfl
  try simp only [Act.put, List.setIfInBounds_toArray, List.set_cons_zero, List.set_cons_succ]
  refine takeA (i := 9) (v := ?_) rfl (by kernel_rfl) (by kernel_rfl) (by kernel_rfl) (fun _ _ _ h => h) (by rfl) (by assumption) ?_ ?_
  rotate_left
  · intro w hSw; (try dsimp only at hSw); go_simp <;> with_reducible rfl
  try simp only [Act.put, List.setIfInBounds_toArray, List.set_cons_zero, List.set_cons_succ]
  refine takeA (i := 10) (v := ?_) rfl (by kernel_rfl) (by kernel_rfl) (by kernel_rfl) (fun _ _ _ h => h) (by rfl) (by assumption) ?_ ?_
  rotate_left
  · intro w hSw; (try dsimp only at hSw); go_simp <;> with_reducible rfl
  try simp only [Act.put, List.setIfInBounds_toArray, List.set_cons_zero, List.set_cons_succ]
  refine takeA (i := 11) (v := ?_) rfl (by kernel_rfl) (by kernel_rfl) (by kernel_rfl) (fun _ _ _ h => h) (by rfl) (by assumption) ?_ ?_
  rotate_left
  · intro w hSw; (try dsimp only at hSw); go_simp <;> with_reducible rfl
  try simp only [Act.put, List.setIfInBounds_toArray, List.set_cons_zero, List.set_cons_succ]
  refine stepA (i := 2) rfl (by kernel_rfl) (fun K0 hK0 => ?_)
  go_simp
  refine PLd.out.mono ?_
  rintro e w3 ⟨rfl, rfl⟩
  dsimp only
  refine hK0.out _ _ hS (fun hS2 => ?_)
  clear hK0 K0 hS PLd PL
  try simp only [Act.put, List.setIfInBounds_toArray, List.set_cons_zero, List.set_cons_succ]
  refine takeA (i := 12) (v := ?_) rfl (by kernel_rfl) (by kernel_rfl) (by kernel_rfl) (fun _ _ _ h => h) (by rfl) (by assumption) ?_ ?_
  rotate_left
  · intro w hSw; (try dsimp only at hSw); go_simp <;> with_reducible rfl
  try simp only [Act.put, List.setIfInBounds_toArray, List.set_cons_zero, List.set_cons_succ]
  refine takeA (i := 13) (v := ?_) rfl (by kernel_rfl) (by kernel_rfl) (by kernel_rfl) (fun _ _ _ h => h) (by rfl) (by assumption) ?_ ?_
  rotate_left
  · intro w hSw; (try dsimp only at hSw); go_simp <;> with_reducible rfl
  try simp only [Act.put, List.setIfInBounds_toArray, List.set_cons_zero, List.set_cons_succ]
  refine wpAnyH_done (by kernel_rfl) ?_ _
  clear hS2
  go_wp2_with fail
  obtain ⟨⟨⟨⟨⟨f1, f2⟩, f3⟩, f4, f5⟩, f6⟩, f7⟩ := FC.out wd hB0
  refine wp_region_held_drew (S := fun Y => (Y.cell? ⟨pb, 0, none⟩ = some (.func (.func pf) #[] caps) ∧ Y.cell? ⟨xb, 0, none⟩ = some (.int .i64 x)) ∧ Y.cell? ⟨IX, x, none⟩ = some (.int .i64 ((i : Nat) : Int))) (by kernel_rfl) ⟨⟨f3, f2⟩, f6⟩ (fun hS => ?_)
  clear f1 f2 f3 f4 f5 f6 f7
  have hB1 : Below w.heap.size w wd.drew := hB0.drew
  clear hB0
  generalize wd.drew = we at *
  have PO := Lib.hid (HPO.out we hB1)
  have eg := HEG.out
  refine takeA (i := 0) (v := ?_) rfl (by kernel_rfl) (by kernel_rfl) (by kernel_rfl) (fun _ _ _ h => h) (by rfl) (by assumption) ?_ ?_
  rotate_left
  · intro w hSw; (try dsimp only at hSw); go_simp <;> with_reducible rfl
  try simp only [Act.put, List.setIfInBounds_toArray, List.set_cons_zero, List.set_cons_succ]
  refine takeA (i := 1) (v := ?_) rfl (by kernel_rfl) (by kernel_rfl) (by kernel_rfl) (fun _ _ _ h => h) (by rfl) (by assumption) ?_ ?_
  rotate_left
  · intro w hSw; (try dsimp only at hSw); go_simp <;> with_reducible rfl
  try simp only [Act.put, List.setIfInBounds_toArray, List.set_cons_zero, List.set_cons_succ]
  refine takeA (i := 2) (v := ?_) rfl (by kernel_rfl) (by kernel_rfl) (by kernel_rfl) (fun _ _ _ h => h) (by rfl) (by assumption) ?_ ?_
  rotate_left
  · intro w hSw; (try dsimp only at hSw); go_simp <;> with_reducible rfl
  try simp only [Act.put, List.setIfInBounds_toArray, List.set_cons_zero, List.set_cons_succ]
  refine takeA (i := 3) (v := ?_) rfl (by kernel_rfl) (by kernel_rfl) (by kernel_rfl) (fun _ _ _ h => h) (by rfl) (by assumption) ?_ ?_
  rotate_left
  · intro w hSw; (try dsimp only at hSw); go_simp <;> with_reducible rfl
  try simp only [Act.put, List.setIfInBounds_toArray, List.set_cons_zero, List.set_cons_succ]
  refine takeA (i := 4) (v := ?_) rfl (by kernel_rfl) (by kernel_rfl) (by kernel_rfl) (fun _ _ _ h => h) (by rfl) (by assumption) ?_ ?_
  rotate_left
  · intro w hSw; (try dsimp only at hSw); go_simp <;> with_reducible rfl
  try simp only [Act.put, List.setIfInBounds_toArray, List.set_cons_zero, List.set_cons_succ]
  refine takeA (i := 7) (v := ?_) rfl (by kernel_rfl) (by kernel_rfl) (by kernel_rfl) (fun _ _ _ h => h) (by rfl) (by assumption) ?_ ?_
  rotate_left
  · intro w hSw; (try dsimp only at hSw); go_simp <;> with_reducible rfl
  try simp only [Act.put, List.setIfInBounds_toArray, List.set_cons_zero, List.set_cons_succ]
  refine stepA (i := 5) rfl (by kernel_rfl) (fun K0 hK0 => ?_)
  go_simp
  refine PO.out.mono ?_
  rintro e w5 ⟨hb5, u, rfl, hu⟩
  obtain ⟨Au, cu, hue, -⟩ := hu.form
  rw [List.length_map] at hue
  subst hue
  have hB5 := hB1.trans (hb5.mono hB1.size)
  obtain ⟨⟨⟨⟨⟨f1, f2⟩, f3⟩, f4, f5⟩, f6⟩, f7⟩ := FC.out w5 hB5
  dsimp only
  refine hK0.out _ _ ⟨⟨f3, f2⟩, f6⟩ (fun hS2 => ?_)
  clear hK0 K0 hS PO HPO eg HEG f1 f2 f3 f4 f5 f6 f7
  try simp only [Act.put, List.setIfInBounds_toArray, List.set_cons_zero, List.set_cons_succ]
  refine takeA (i := 6) (v := ?_) rfl (by kernel_rfl) (by kernel_rfl) (by kernel_rfl) (fun _ _ _ h => h) (by rfl) (by assumption) ?_ ?_
  rotate_left
  · intro w hSw; (try dsimp only at hSw); go_simp <;> with_reducible rfl
  try simp only [Act.put, List.setIfInBounds_toArray, List.set_cons_zero, List.set_cons_succ]
  refine wpAnyH_done (by kernel_rfl) ?_ _
  clear hS2
  have HUR := Lib.hid (fun W (hW : Below w5.heap.size w5 W) k (hk : k < ps.length) => show ∃ ad, Au = some ad ∧ W.cell? (ad.add k) = some (.int .i64 ((ps[k] : Nat) : Int)) from by
    obtain ⟨ad, e1, e2, e3⟩ := hu.rd.zint (j := k) (by rw [List.length_map]; exact hk)
    refine ⟨ad, e1, ?_⟩
    have := (hW.cell (p := ad.add k) (World.block_lt_of_cell? _ _ e3)).trans e3
    simpa using this)
  clear hu hb5 hB1
  go_wp2_with fail
  go_loopw [9, 32] (fun v j wr => ∃ k : Nat, k ≤ ps.length ∧ j = .int .i64 k ∧ wr.ownsRow w5.heap.size 9 1 v k (strs (AL.take k)) ∧ Below w5.heap.size w5 wr) (fun _ j _ => ps.length - (intOf j).toNat)
  case atStart => exact ⟨0, Nat.zero_le _, rfl, World.ownsRow_nil _ _ _ _, Below.refl _ _⟩
  case round =>
    obtain ⟨k, hk, rfl, hO, hC⟩ := hrel
    have hB := hB5.trans (hC.mono hB5.size)
    by_cases hlt : k < ps.length
    · obtain ⟨a1, a2, a3⟩ := HPS.out k hlt
      obtain ⟨adu, rfl, hcu⟩ := HUR.out wr hC k hlt
      have HN := Lib.hid (HNX.out k hlt)
      generalize ps[k] = p at *
      obtain ⟨m, hm⟩ : ∃ m, m = place (S.map Int.toNat) (I.set x p) := ⟨_, rfl⟩
      rw [← hm] at a2 a3 HN
      clear hm
      obtain ⟨r, hr⟩ : ∃ r : Nat, r = p * d := ⟨_, rfl⟩
      rw [← hr] at a3
      have hrb : r ≤ 1099511627776 := by rw [hr]; exact Nat.mul_le_mul a1 hdx
      have wa : IntKind.i64.wrap ((p : Int) * (d : Int)) = (r : Int) := by
        rw [show (p : Int) * (d : Int) = (r : Int) by rw [hr]; push_cast; rfl]
        exact IntWalk.i64_in _ (by omega)
      have hvl := HVL.out
      have wb : IntKind.i64.wrap ((P : Int) - (q : Int) + (r : Int)) = (m : Int) := by
        rw [show (P : Int) - (q : Int) + (r : Int) = (m : Int) by omega]
        exact IntWalk.i64_in _ (by omega)
      have m0 : (0 : Int) ≤ (m : Int) := by omega
      have m1 : (m : Int) < (V.length : Int) := by omega
      obtain ⟨adv, rfl, hcv⟩ := VC.out wr hB m a2
      obtain ⟨⟨⟨⟨⟨f1, f2⟩, f3⟩, f4, f5⟩, f6⟩, f7⟩ := FC.out wr hB
      have HMV : Hid (m < V.length) := a2
      obtain ⟨tx, htx⟩ : ∃ tx, tx = V.getD m ⟨#[]⟩ := ⟨_, rfl⟩
      rw [← htx] at hcv HN
      have HTX := Lib.hid htx.symm
      clear htx
      obtain ⟨uA, uc, rfl⟩ := own_formV hO
      have hkp : k ≤ 5000 := by omega
      clear hr a1 a2 a3 hrb f3 f5 f6
      go_wp2_with fail
      refine wp_region_M 15 (by kernel_rfl) (fun Y => ((Y.cell? ⟨ab, 1, none⟩ = some (.slice (some adv) V.length c') ∧ Y.cell? ⟨fb, 0, none⟩ = some (.slice (some ⟨g, 0, none⟩) S.length S.length)) ∧ (Y.cell? ⟨xb, 0, none⟩ = some (.int .i64 x) ∧ Y.cell? ⟨g, x, none⟩ = some (.int .i64 ((d : Nat) : Int)))) ∧ Y.cell? (adv.add m) = some (.string tx)) ⟨⟨⟨f4, f1⟩, f2, f7⟩, hcv⟩ (fun hS0 => ?_)
      clear f1 f2 f4 f7 hcv hcu
      refine takeM (i := 0) (v := ?_) rfl (by kernel_rfl) (by decide) (by kernel_rfl) (by kernel_rfl) (by kernel_rfl) (fun _ _ _ h => h) (by rfl) (by assumption) ?_ ?_
      rotate_left
      · intro w hSw; (try dsimp only at hSw); go_simp <;> with_reducible rfl
      try simp only [Act.put, List.setIfInBounds_toArray, List.set_cons_zero, List.set_cons_succ]
      refine takeM (i := 1) (v := ?_) rfl (by kernel_rfl) (by decide) (by kernel_rfl) (by kernel_rfl) (by kernel_rfl) (fun _ _ _ h => h) (by rfl) (by assumption) ?_ ?_
      rotate_left
      · intro w hSw; (try dsimp only at hSw); go_simp <;> with_reducible rfl
      try simp only [Act.put, List.setIfInBounds_toArray, List.set_cons_zero, List.set_cons_succ]
      refine takeM (i := 2) (v := ?_) rfl (by kernel_rfl) (by decide) (by kernel_rfl) (by kernel_rfl) (by kernel_rfl) (fun _ _ _ h => h) (by rfl) (by assumption) ?_ ?_
      rotate_left
      · intro w hSw; (try dsimp only at hSw); go_simp <;> with_reducible rfl
      try simp only [Act.put, List.setIfInBounds_toArray, List.set_cons_zero, List.set_cons_succ]
      refine takeM (i := 3) (v := ?_) rfl (by kernel_rfl) (by decide) (by kernel_rfl) (by kernel_rfl) (by kernel_rfl) (fun _ _ _ h => h) (by rfl) (by assumption) ?_ ?_
      rotate_left
      · intro w hSw; (try dsimp only at hSw); go_simp <;> with_reducible rfl
      try simp only [Act.put, List.setIfInBounds_toArray, List.set_cons_zero, List.set_cons_succ]
      refine takeM (i := 4) (v := ?_) rfl (by kernel_rfl) (by decide) (by kernel_rfl) (by kernel_rfl) (by kernel_rfl) (fun _ _ _ h => h) (by rfl) (by assumption) ?_ ?_
      rotate_left
      · intro w hSw; (try dsimp only at hSw); go_simp <;> with_reducible rfl
      try simp only [Act.put, List.setIfInBounds_toArray, List.set_cons_zero, List.set_cons_succ]
      refine takeM (i := 5) (v := ?_) rfl (by kernel_rfl) (by decide) (by kernel_rfl) (by kernel_rfl) (by kernel_rfl) (fun _ _ _ h => h) (by rfl) (by assumption) ?_ ?_
      rotate_left
      · intro w hSw; (try dsimp only at hSw); go_simp <;> with_reducible rfl
      try simp only [Act.put, List.setIfInBounds_toArray, List.set_cons_zero, List.set_cons_succ]
      refine takeM (i := 6) (v := ?_) rfl (by kernel_rfl) (by decide) (by kernel_rfl) (by kernel_rfl) (by kernel_rfl) (fun _ _ _ h => h) (by rfl) (by assumption) ?_ ?_
      rotate_left
      · intro w hSw; (try dsimp only at hSw); go_simp <;> with_reducible rfl
      try simp only [Act.put, List.setIfInBounds_toArray, List.set_cons_zero, List.set_cons_succ]
      refine takeM (i := 7) (v := ?_) rfl (by kernel_rfl) (by decide) (by kernel_rfl) (by kernel_rfl) (by kernel_rfl) (fun _ _ _ h => h) (by rfl) (by assumption) ?_ ?_
      rotate_left
      · intro w hSw; (try dsimp only at hSw); go_simp <;> with_reducible rfl
      try simp only [Act.put, List.setIfInBounds_toArray, List.set_cons_zero, List.set_cons_succ]
      refine takeM (i := 8) (v := ?_) rfl (by kernel_rfl) (by decide) (by kernel_rfl) (by kernel_rfl) (by kernel_rfl) (fun _ _ _ h => h) (by rfl) (by assumption) ?_ ?_
      rotate_left
      · intro w hSw; (try dsimp only at hSw); go_simp <;> with_reducible rfl
      try simp only [Act.put, List.setIfInBounds_toArray, List.set_cons_zero, List.set_cons_succ]
      refine takeM (i := 9) (v := ?_) rfl (by kernel_rfl) (by decide) (by kernel_rfl) (by kernel_rfl) (by kernel_rfl) (fun _ _ _ h => h) (by rfl) (by assumption) ?_ ?_
      rotate_left
      · intro w hSw; (try dsimp only at hSw); go_simp <;> with_reducible rfl
      try simp only [Act.put, List.setIfInBounds_toArray, List.set_cons_zero, List.set_cons_succ]
      refine takeM (i := 10) (v := ?_) rfl (by kernel_rfl) (by decide) (by kernel_rfl) (by kernel_rfl) (by kernel_rfl) (fun _ _ _ h => h) (by rfl) (by assumption) ?_ ?_
      rotate_left
      · intro w hSw; (try dsimp only at hSw); go_simp <;> with_reducible rfl
      try simp only [Act.put, List.setIfInBounds_toArray, List.set_cons_zero, List.set_cons_succ]
      refine takeM (i := 11) (v := ?_) rfl (by kernel_rfl) (by decide) (by kernel_rfl) (by kernel_rfl) (by kernel_rfl) (fun _ _ _ h => h) (by rfl) (by assumption) ?_ ?_
      rotate_left
      · intro w hSw; (try dsimp only at hSw); go_simp <;> with_reducible rfl
      try simp only [Act.put, List.setIfInBounds_toArray, List.set_cons_zero, List.set_cons_succ]
      refine takeM (i := 12) (v := ?_) rfl (by kernel_rfl) (by decide) (by kernel_rfl) (by kernel_rfl) (by kernel_rfl) (fun _ _ _ h => h) (by rfl) (by assumption) ?_ ?_
      rotate_left
      · intro w hSw; (try dsimp only at hSw); go_simp <;> with_reducible rfl
      try simp only [Act.put, List.setIfInBounds_toArray, List.set_cons_zero, List.set_cons_succ]
      clear hS0
      have HOA := Lib.hid (hO.drew.alloc (.cells #[.string tx] 9))
      have hCA := hC.drew.alloc (by exact hC.size) (.cells #[.string tx] 9)
      have hzA : w5.heap.size ≤ (wr.drew.alloc (.cells #[.string tx] 9)).heap.size := hCA.size
      have HFA := Lib.hid (fun W (hW : Below w5.heap.size w5 W) => show ((W.cell? ⟨ab, 1, none⟩ = some (.slice (some adv) V.length c') ∧ W.cell? ⟨fb, 0, none⟩ = some (.slice (some ⟨g, 0, none⟩) S.length S.length)) ∧ (W.cell? ⟨xb, 0, none⟩ = some (.int .i64 x) ∧ W.cell? ⟨g, x, none⟩ = some (.int .i64 ((d : Nat) : Int)))) ∧ W.cell? (adv.add m) = some (.string tx) from by
        have hBW := hB5.trans (hW.mono hB5.size)
        obtain ⟨⟨⟨⟨⟨f1, f2⟩, f3⟩, f4, f5⟩, f6⟩, f7⟩ := FC.out W hBW
        obtain ⟨adv', e1, e2⟩ := VC.out W hBW m HMV.out
        injection e1 with e1
        subst e1
        exact ⟨⟨⟨f4, f1⟩, f2, f7⟩, by rw [HTX.out] at e2; exact e2⟩)
      have hS8 := HFA.out _ hCA
      refine stepM (i := 13) rfl (by kernel_rfl) (fun K0 hK0 => ?_)
      go_simp
      refine hK0.out _ _ (fun _ => hS8) (fun _ => ?_)
      clear hK0 K0 hS8
      try simp only [Act.put, List.setIfInBounds_toArray, List.set_cons_zero, List.set_cons_succ]
      refine stepM (i := 14) rfl (by kernel_rfl) (fun K0 hK0 => ?_)
      rw [if_pos (by rfl)]
      refine step_append_own (.tmp 36) (.tmp 49) 23 rfl w5.heap.size 9 i0 (.string ⟨#[]⟩) 1 16 Tryz.underlying23 hi0 hz0 hz1 hz2 rfl (by omega) (.slice uA k uc) k _ (by rfl) HOA.out ⟨wr.heap.size, 0, none⟩ 1 1 [.string tx] (by rfl) (by rfl) (new_str wr.drew _ tx) (strs_one [tx]) (by unfold maxLen; omega) (by omega) hzA ?_
      intro v1 w8 hown1 hg1
      have hC8 := below_app hCA hg1 hzA HOA.out (Nat.le_refl _)
      have hS9 := HFA.out _ hC8
      have HO2 : Hid (w8.ownsRow w5.heap.size 9 1 v1 (k + 1) (strs (AL.take (k + 1)))) := by
        show w8.ownsRow _ _ _ _ _ _
        rw [HN.out, strs_app]; exact hown1
      clear hown1 hg1 HOA hCA hzA HFA HN hC hB
      dsimp only
      refine hK0.out _ _ (fun _ => hS9) (fun _ => ?_)
      clear hK0 K0 hS9
      try simp only [Act.put, List.setIfInBounds_toArray, List.set_cons_zero, List.set_cons_succ]
      refine stepM (i := 15) rfl (by kernel_rfl) (fun K0 hK0 => ?_)
      go_simp
      refine hK0.out _ _ (fun h => absurd rfl h) (fun _ => ?_)
      clear hK0 K0
      try simp only [Act.put, List.setIfInBounds_toArray, List.set_cons_zero, List.set_cons_succ]
      refine doneM (by kernel_rfl) ?_ _
      go_wp2
      go_roundw
      case rel => exact ⟨k + 1, by omega, by go_num, HO2.out, hC8⟩
      case measure => simp [intOf]; omega
    · obtain rfl : k = ps.length := by omega
      rw [HALL.out] at hO
      have hT := IsT.of_own hO
      obtain ⟨uA, uc, rfl⟩ := own_formV hO
      obtain ⟨⟨⟨⟨⟨f1, f2⟩, f3⟩, f4, f5⟩, f6⟩, f7⟩ := FC.out wr hB
      have RR := Lib.hid (RD.out wr hB _ hT)
      clear hO hT RD HALL f1 f2 f3 f4 f6 f7
      go_wp2_with fail
      refine RR.out.mono ?_
      rintro e w6 ⟨hb6, rfl⟩
      go_wp2
      go_ret
      exact ⟨hB.trans (hb6.mono hB.size), rfl⟩

/-- An array along whose axis lists are reduced. -/
noncomputable def alongR (a : Arr) (x red : Int) (n : Nat) (pos : Nat → List Nat) : Arr × Int :=
  open Classical in if VS (a.1.set x.toNat (n : Int)) then ((a.1.set x.toNat (n : Int), alongV (a.1.map Int.toNat) a.2 x.toNat red n pos), 0) else (([], []), 60)
/-- Without an error the shape is its own. -/
def OkOwn (e : Int) (B : Nat) (W : World) (v : Value) (a : Arr) : Prop := e = 0 → ShOwn B W v a.1 a.2
theorem ShOwn.put {B : Nat} {W : World} {v : Value} {S : List Int} {V : List ByteArray} (h : ShOwn B W v S V) {p : Addr} (hp : p.block < B) (u : Value) : ShOwn B (W.setCell p u) v S V := by
  obtain ⟨A, c, g, N, e, hN, hb, hB, ho, hd⟩ := h
  exact ⟨A, c, g, N, e, hN, hb.far (by omega) u, hB, ownsRow_setCell_below ho hp u, hd⟩
theorem ShOwn.less {B B' : Nat} {W : World} {v : Value} {S : List Int} {V : List ByteArray} (h : ShOwn B W v S V) (hp : B' ≤ B) : ShOwn B' W v S V := by
  obtain ⟨A, c, g, N, e, hN, hb, hB, ho, hd⟩ := h
  exact ⟨A, c, g, N, e, hN, hb, by omega, Go.Joins.ownsRow_le ho hp, hd⟩
theorem ShOwn.below {B : Nat} {W W' : World} {v : Value} {S : List Int} {V : List ByteArray} (h : ShOwn B W v S V) (hb : Below W.heap.size W W') : ShOwn B W' v S V := by
  obtain ⟨A, c, g, N, e, hN, hk, hB, ho, hd⟩ := h
  exact ⟨A, c, g, N, e, hN, hk.next' hb, hB, ho.kept (grown_of_below hb none) (by cases (Value.slice A S.length c).ownBlock with | none => exact .inl rfl | some g => exact .inr (by simp)), hd⟩
theorem idx_bound {S : List Nat} {j k : Nat} (hS : ∀ s ∈ S, s ≤ 1024) (hk : k < Ix.prod S) (hj : j < S.length) : (idx S k).getD j 0 < 1024 := by
  have h1 := ((inside_iff _ _).1 (idx_inside S k hk)).2 j hj
  have h2 := hS _ (getD_mem hj)
  omega

theorem BxW.start5 (w : World) (t1 t2 t3 t4 t5 : TypeId) (c1 c2 c3 c4 c5 : Array Value) : BxW w [(w.heap.size, t1, c1), (w.heap.size + 1, t2, c2), (w.heap.size + 2, t3, c3), (w.heap.size + 3, t4, c4), (w.heap.size + 4, t5, c5)] (((((w.alloc (.cells c1 t1)).alloc (.cells c2 t2)).alloc (.cells c3 t3)).alloc (.cells c4 t4)).alloc (.cells c5 t5)) := by
  simpa using (BxW.start4 w t1 t2 t3 t4 c1 c2 c3 c4).new t5 c5
/-- What a row of its own holds, with another element. -/
theorem own_put {w : World} {base : Nat} {n : Nat} {v : Value} {l : List Int} (h : w.ownsRow base 3 1 v n (zints l)) {x : Nat} (hx : x < n) : ∃ g c, v = .slice (some ⟨g, 0, none⟩) n c ∧ base ≤ g ∧ g < w.heap.size ∧ (∃ y, w.cell? ⟨g, x, none⟩ = some y) ∧ w.frozen? ⟨g, x, none⟩ = false ∧
    ∀ y : Int, (w.setCell ⟨g, x, none⟩ (.int .i64 y)).ownsRow base 3 1 (.slice (some ⟨g, 0, none⟩) n c) n (zints (l.set x y)) := by
  have hlt := h.lt
  obtain ⟨h0, h1⟩ := h
  rcases h1 with ⟨-, h1⟩ | ⟨g, cap, cur, rfl, hg, hh, h2, h3, h4, h5⟩
  · omega
  · have kb : Bk w g 3 cur := hh
    have hsz : x < cur.size := by omega
    refine ⟨g, cap, rfl, hg, (hlt g rfl).2, ⟨cur[x], by rw [kb.cell x, Array.getElem?_eq_getElem hsz]⟩, kb.frozen x, fun y => ⟨?_, .inr ⟨g, cap, _, rfl, hg, kb.put x _, h2, h3, by simp [h4], ?_⟩⟩⟩
    · rw [zints_len, List.length_set, ← zints_len]; exact h0
    · have e1 : (cur.setIfInBounds x (.int .i64 y)).toList = cur.toList.set x (.int .i64 y) := by simp
      rw [e1, List.take_set, h5]
      have := zints_set l x y
      simp only [List.setIfInBounds_toArray] at this
      exact congrArg Array.toList this

set_option maxRecDepth 100000 in
set_option maxHeartbeats 3200000 in
theorem along_any (a : Arr) (x : Nat) (red : Int) (n : Nat) (va : Value) (pf : FuncId) (caps : Array Value) (eg : ∀ args w, (callFunc pf args).run Tryz.prog w = .ok (.enter pf args) w) (pos : Nat → List Nat) (w : World)
    (ha : IsA w w.heap.size va a) (he : Env w) (her : EnvR w) (hva : VA a) (hx : x < a.1.length) (h1 : 1 ≤ red) (h5 : red ≤ 5) (hV2 : a.2.length ≤ 5000) (hn : n ≤ 4000000)
    (hpos : ∀ k, k < n → (∀ p ∈ pos k, p < (a.1.map Int.toNat).getD x 0) ∧ (pos k).length ≤ (a.1.map Int.toNat).getD x 0)
    (hcall : ∀ k W, k < n → Below w.heap.size w W → Calls Tryz.prog pf (#[.int .i64 (k : Nat)] ++ caps) W fun e W' => Below W.heap.size W W' ∧ ∃ u, e = .returned u ∧ IsI W' W'.heap.size u ((pos k).map Int.ofNat)) :
    Calls Tryz.prog 104 #[va, .int .i64 x, .int .i64 red, .int .i64 n, .func (.func pf) #[] caps] w fun e w' => Below w.heap.size w w' ∧ ∃ u, e = .returned (.tuple #[u, .int .i64 (alongR a x red n pos).2]) ∧ IsA w' w'.heap.size u (alongR a x red n pos).1 ∧ OkOwn (alongR a x red n pos).2 w.heap.size w' u (alongR a x red n pos).1 := by
  obtain ⟨A, c, A', c', rfl, hc, hc'⟩ := ha.form
  obtain ⟨hS, hT⟩ := ha.parts
  obtain ⟨S, V⟩ := a
  simp only at hS hT hc hc' hx hV2 hpos
  have hVS : VS S := hva.1
  have hl : V.length = Ix.prod (S.map Int.toNat) := hva.2.1
  have hvz : ∀ s ∈ V, s.size ≤ 300 := fun s hs => by
    rcases hva.2.2 s hs with h | h
    · have : s = ⟨#[]⟩ := ba_list h
      rw [this]; decide
    · have := isNum_len h
      rw [size_list'] at this; omega
  obtain ⟨qs, hqs⟩ : ∃ b : Bool, b = true ↔ VS (S.set x (n : Int)) := by classical exact ⟨decide _, decide_eq_true_iff⟩
  have B0 := BxW.start5 w 25 3 3 108 25 #[.slice A S.length c, .slice A' V.length c'] #[.int .i64 x] #[.int .i64 red] #[.func (.func pf) #[] caps] #[.slice none 0 0, .slice none 0 0]
  have HBAD : Hid (qs = false → alongR (S, V) x red n pos = (([], []), 60)) := fun h => if_neg fun h' => by
    rw [show ((x : Int)).toNat = x from Int.toNat_natCast x] at h'
    rw [hqs.2 h'] at h; cases h
  have HOK : Hid (qs = true → alongR (S, V) x red n pos = ((S.set x (n : Int), alongV (S.map Int.toNat) V x red n pos), 0)) := fun h => if_pos (by
    show VS (S.set ((x : Int)).toNat (n : Int))
    rw [Int.toNat_natCast]; exact hqs.1 h)
  have hS4 := hVS.1
  have CL := Lib.hid (fun W (hW : Below w.heap.size w W) => clonez_any A S.length c S W rfl (by omega) ((hS.below hW).more hW.size).rd)
  have ST := Lib.hid (fun W (hW : Below w.heap.size w W) => strides_any (S.map Int.toNat) A c W hVS.sz (by rw [← hVS.cells]; exact ((hS.below hW).more hW.size).rd))
  rw [List.length_map] at ST
  have HV := Lib.hid (fun W (hW : Below w.heap.size w W) => hT.rd.below hW)
  have HE := Lib.hid (fun W (hW : Below w.heap.size w W) => And.intro (he.next hW) (her.next hW))
  have HH := Lib.hid (And.intro hVS (And.intro hl (And.intro hvz (And.intro hpos hcall))))
  have HQS := Lib.hid hqs
  have HEG := Lib.hid eg
  generalize alongR (S, V) x red n pos = R at *
  obtain ⟨Ra, Re⟩ := R
  have hx0 : (0 : Int) ≤ (x : Int) := by omega
  have hxS : (x : Int) < (S.length : Int) := by omega
  clear ha hS hT hva hVS hl hvz hpos hcall he her hqs eg
  go_enter Tryz.func104, Tryz.ntmps104
  obtain ⟨b0, b1⟩ := bkA B0.one
  go_wp2_with fail
  generalize (((((w.alloc (.cells #[.slice A S.length c, .slice A' V.length c'] 25)).alloc (.cells #[.int .i64 (x : Int)] 3)).alloc (.cells #[.int .i64 red] 3)).alloc (.cells #[.func (.func pf) #[] caps] 108)).alloc (.cells #[.slice none 0 0, .slice none 0 0] 25)) = W0 at *
  refine (CL.out W0 B0.below).mono ?_
  rintro e w2 ⟨hb2, v9, rfl, hown⟩
  have B2 := B0.next hb2
  have hs0 : w.heap.size + 4 < W0.heap.size := B0.five.lt
  obtain ⟨g9, c9, rfl, hg9, hg9', ⟨y9, hy9⟩, hf9, hput⟩ := own_put hown hx
  have hO3 := hput (n : Int)
  have B3 : BxW w [(w.heap.size, 25, #[.slice A S.length c, .slice A' V.length c']), (w.heap.size + 1, 3, #[.int .i64 x]), (w.heap.size + 2, 3, #[.int .i64 red]), (w.heap.size + 3, 108, #[.func (.func pf) #[] caps]), (w.heap.size + 4, 25, #[.slice none 0 0, .slice none 0 0])] (w2.setCell ⟨g9, x, none⟩ (.int .i64 (n : Int))) := ⟨B2.below.setCell (p := ⟨g9, x, none⟩) (by show w.heap.size ≤ g9; have := B0.below.size; omega) _, fun p hp => (B2.keep p hp).far (by
    show p.1 ≠ g9
    simp at hp
    rcases hp with rfl | rfl | rfl | rfl | rfl <;> (simp only []; omega)) _⟩
  clear hb2 hown hput CL b0 b1 B0
  have x1 : w2.cell? ⟨w.heap.size + 1, 0, none⟩ = some (Value.int .i64 x) := B2.two.cell 0
  have hT3 := Lib.hid (IsI.of_own hO3)
  have SS := Lib.hid (validshape_any (S.set x (n : Int)) (some ⟨g9, 0, none⟩) c9 _ _ (by have := IsI.of_own hO3; exact this.rd) (by rw [List.length_set]; unfold maxLen; omega) qs HQS.out)
  rw [List.length_set] at SS
  go_wp2_with fail
  simp only [Nat.add_assoc, Nat.reduceAdd]
  refine SS.out.mono ?_
  rintro e w' ⟨rfl, rfl⟩
  have HO3 := Lib.hid hO3
  clear SS x1 hy9 hf9 hO3 B2
  generalize w2.setCell ⟨g9, x, none⟩ (.int .i64 (n : Int)) = w3 at *
  cases hqv : qs
  · have hR := HBAD.out hqv
    injection hR with e1 e2
    subst e1
    subst e2
    obtain ⟨d0, d1⟩ := bkA B3.five
    have f0 := B3.five.frozen 0
    have f1 := B3.five.frozen 1
    clear HBAD HOK HH HE HV ST hT3 HO3 HQS hqv HEG
    go_wp2
    refine bodyPost_ret (v := .tuple #[.agg #[.slice none 0 0, .slice none 0 0], .int .i64 60]) (by simp [results, Tryz.results104, go_sem, d0, d1]) rfl ?_
    exact ⟨(B3.below.setCell (p := ⟨w.heap.size + 4, 0, none⟩) (by simp) _).setCell (p := ⟨w.heap.size + 4, 1, none⟩) (by simp) _, _, rfl, IsA.zero _ _, fun h => absurd h (by decide)⟩
  have hTS := HQS.out.1 hqv
  have hR := HOK.out hqv
  injection hR with e1 e2
  subst e2
  have HRA := Lib.hid e1
  clear e1 HBAD HOK
  obtain ⟨b0, b1⟩ := bkA B3.one
  go_wp2_with fail
  refine (ST.out w3 B3.below).mono ?_
  rintro e w4 ⟨hb4, rfl, hg4⟩
  have B4 := B3.next hb4
  have b5 := below_alloc w4 (.cells #[.slice (some ⟨w3.heap.size, 0, none⟩) S.length S.length] 22)
  have B5 := B4.next b5
  have k5 := Bk.new w4 22 #[Value.slice (some ⟨w3.heap.size, 0, none⟩) S.length S.length]
  have hg5 := hg4.next' b5
  have hT5 := (hT3.out.next hb4).next b5
  have hn1 : n ≤ 1024 := by
    have := (hTS.2.1 (n : Int) (List.mem_iff_getElem.2 ⟨x, by rw [List.length_set]; exact hx, List.getElem_set_self _⟩)).2
    omega
  have hmap : (S.set x (n : Int)).map Int.toNat = (S.map Int.toNat).set x n := by rw [List.map_set, Int.toNat_natCast]
  have MK := Lib.hid (made_own (S.set x (n : Int)) 148 #[.pointer (some ⟨w4.heap.size, 0, none⟩), .pointer (some ⟨w.heap.size + 1, 0, none⟩), .pointer (some ⟨w.heap.size + 3, 0, none⟩), .pointer (some ⟨w.heap.size, 0, none⟩), .pointer (some ⟨w.heap.size + 2, 0, none⟩)] (enters_of Tryz.func148 (by kernel_rfl) rfl)
    (fun k => redT red (numsT (alV (S.map Int.toNat) V x (idx ((S.map Int.toNat).set x n) k) (pos ((idx ((S.map Int.toNat).set x n) k).getD x 0))))) (some ⟨g9, 0, none⟩) c9 (w4.alloc (.cells #[.slice (some ⟨w3.heap.size, 0, none⟩) S.length S.length] 22)) hTS hT5.rd (fun k IX W hW hk hX hbX => by
      obtain ⟨j1, j2, j3, j4, j5⟩ := HH.out
      have B6 := B5.next hW
      have k6 := k5.next' hW
      have hg6 := hg5.next' hW
      have hBW := B6.below
      rw [hmap] at hk hbX
      have hIn := idx_inside _ k hk
      have hSm : (S.map Int.toNat).length = S.length := List.length_map _
      have hil : (idx ((S.map Int.toNat).set x n) k).length = S.length := by rw [idx_len, List.length_set, hSm]
      have hSN : ∀ s ∈ S.map Int.toNat, s ≤ 1024 := fun s hs => by
        obtain ⟨z, hz, rfl⟩ := List.mem_map.1 hs
        have := j1.2.1 z hz; omega
      have hp4 : Ix.prod ((S.map Int.toNat).set x n) ≤ 4096 := by have := hTS.2.2; rwa [hmap] at this
      obtain ⟨a1, a2⟩ := along_place hSN (by rw [hSm]; exact hx) hn1 hp4 hIn
      obtain ⟨p1, p2⟩ := j4 _ a2
      have hSx : (S.map Int.toNat).getD x 0 ≤ 1024 := by
        rw [getD_in (by rw [hSm]; exact hx)]; exact hSN _ (List.getElem_mem _)
      have hS1 : (S.map Int.toNat).getD x 0 ≤ 5000 := by
        have e1 := prod_erase_le (S.map Int.toNat) x (by rw [hSm]; exact hx)
        have e2 := prod_erase_le ((S.map Int.toNat).set x n) x (by rw [List.length_set, hSm]; exact hx)
        rw [set_getD (by rw [hSm]; exact hx), if_pos rfl, List.eraseIdx_set_eq] at e2
        have e3 : 0 < Ix.prod ((S.map Int.toNat).eraseIdx x) := Nat.pos_of_ne_zero fun h => by rw [h, Nat.mul_zero] at e2; omega
        have e4 := Nat.le_mul_of_pos_right ((S.map Int.toNat).getD x 0) e3
        omega
      have h := along1_any S V x red (idx ((S.map Int.toNat).set x n) k) (pos ((idx ((S.map Int.toNat).set x n) k).getD x 0)) w4.heap.size (w.heap.size + 1) (w.heap.size + 3) w.heap.size (w.heap.size + 2) w3.heap.size IX W.heap.size A' c' pf caps HEG.out W j1 j2 j3 hx hil a1 (by omega)
        (fun p hp => ⟨by have := p1 p hp; omega, inside_set _ _ _ _ _ (by rw [hSm]; exact hx) hIn (p1 p hp)⟩) (by omega) h1 h5
        (k6.cell 0) (B6.two.cell 0) (B6.four.cell 0) (bkA B6.one).2 (B6.three.cell 0) ((HV.out W hBW).more hBW.size) (by simpa using hg6.rd) hbX (Nat.le_refl _) (HE.out W hBW).1 (HE.out W hBW).2
        (fun W2 hW2 => j5 _ W2 a2 (hBW.trans (hW2.mono hBW.size)))
      rw [hil] at h
      rw [List.length_set]
      exact h))
  rw [hmap, List.length_set] at MK
  have HCL := Lib.hid (show (List.range (Ix.prod ((S.map Int.toNat).set x n))).map (fun k => redT red (numsT (alV (S.map Int.toNat) V x (idx ((S.map Int.toNat).set x n) k) (pos ((idx ((S.map Int.toNat).set x n) k).getD x 0))))) = alongV (S.map Int.toNat) V x red n pos from rfl)
  generalize alongV (S.map Int.toNat) V x red n pos = M at *
  clear hg4 hg5 k5 B3 hb4 b0 b1 ST hT3 HO3 HH HE HV hmap hTS hqv HQS HEG hT5 hn1
  go_wp2_with fail
  refine MK.out.mono ?_
  rintro e w6 ⟨hb6, v6, rfl, hv6, hsh⟩
  rw [HCL.out] at hv6 hsh
  have B6 := B5.next hb6
  have hwz : w.heap.size + 4 < (w4.alloc (.cells #[.slice (some ⟨w3.heap.size, 0, none⟩) S.length S.length] 22)).heap.size := B5.five.lt
  clear MK HCL B5 b5
  obtain ⟨A1, c1, A2, c2, rfl, hc1, hc2⟩ := hv6.form
  obtain ⟨d0, d1⟩ := bkA B6.five
  have f0 := B6.five.frozen 0
  have f1 := B6.five.frozen 1
  go_wp2
  refine bodyPost_ret (v := .tuple #[.agg #[.slice A1 (S.set x (n : Int)).length c1, .slice A2 M.length c2], .int .i64 0]) (by simp [results, Tryz.results104, go_sem, d0, d1]) rfl ?_
  refine ⟨(B6.below.setCell (p := ⟨w.heap.size + 4, 0, none⟩) (by simp) _).setCell (p := ⟨w.heap.size + 4, 1, none⟩) (by simp) _, _, rfl, ?_, fun _ => ?_⟩
  · rw [HRA.out]
    exact hv6.ret d0 d1 _ _
  · rw [HRA.out]
    exact ((hsh.put (p := ⟨w.heap.size + 4, 0, none⟩) hwz _).put (p := ⟨w.heap.size + 4, 1, none⟩) hwz _).less (by omega)
end Go.Proofs.YtgnffedncjjkfaaGreatDoor

namespace Go.Proofs.YtgnffedncjjkfaaGreatDoor
open Go.RowKit Ix Ar

set_option maxRecDepth 100000 in
set_option maxHeartbeats 800000 in
theorem raxial_any (a : Arr) (x red : Int) (va : Value) (w : World) (ha : IsA w w.heap.size va a) (hi : InA a) :
    Calls Tryz.prog 107 #[va, .int .i64 x, .int .i64 red] w fun e w' => Below w.heap.size w w' ∧ e = .returned (.int .i64 (chkR a x red)) := by
  obtain ⟨A, c, A', c', rfl, hc, hc'⟩ := ha.form
  obtain ⟨qv, hqv⟩ : ∃ b : Bool, b = true ↔ VA a := by classical exact ⟨decide _, decide_eq_true_iff⟩
  have hb0 := below_alloc w (.cells #[.slice A a.1.length c, .slice A' a.2.length c'] 25)
  have VV := Lib.hid (rarr_any a _ _ (ha.next hb0) hi qv hqv)
  have k0 := Bk.new w 25 #[Value.slice A a.1.length c, .slice A' a.2.length c']
  have IR := Lib.hid (fun W => risred_any red W)
  have HBAD : Hid (qv = false → chkR a x red = 60) := fun h => if_neg fun h' => by rw [hqv.2 h'] at h; cases h
  have HARG : Hid (qv = true → ¬ AxOk a x red → chkR a x red = 2) := fun h k => by unfold chkR; rw [if_pos (hqv.1 h), if_neg k]
  have HOK : Hid (qv = true → AxOk a x red → chkR a x red = 0) := fun h k => by unfold chkR; rw [if_pos (hqv.1 h), if_pos k]
  have hl := hi.shape
  unfold maxLen at hl
  unfold AxOk at HARG HOK
  generalize chkR a x red = R at *
  obtain ⟨S, V⟩ := a
  simp only at *
  clear ha hqv hi
  cases qv
  · obtain rfl := HBAD.out rfl
    obtain ⟨d0, d1⟩ := bkA k0
    clear HBAD HARG HOK IR k0
    go_enter Tryz.func107, Tryz.ntmps107
    go_wp2_with fail
    refine VV.out.mono ?_
    rintro e w2 ⟨hb2, rfl⟩
    have hB2 := hb0.trans (hb2.mono hb0.size)
    clear d0 d1
    go_wp2
    go_ret
    exact ⟨hB2, rfl⟩
  obtain ⟨d0, d1⟩ := bkA k0
  by_cases h0 : x < 0
  · obtain rfl := HARG.out rfl (fun h => by omega)
    clear HBAD HARG HOK IR
    go_enter Tryz.func107, Tryz.ntmps107
    go_wp2_with fail
    refine VV.out.mono ?_
    rintro e w2 ⟨hb2, rfl⟩
    have hB2 := hb0.trans (hb2.mono hb0.size)
    clear d0 d1 k0
    go_wp2
    go_ret
    exact ⟨hB2, rfl⟩
  by_cases h1 : x < (S.length : Int)
  rotate_left
  · obtain rfl := HARG.out rfl (fun h => by omega)
    clear HBAD HARG HOK IR
    go_enter Tryz.func107, Tryz.ntmps107
    go_wp2_with fail
    refine VV.out.mono ?_
    rintro e w2 ⟨hb2, rfl⟩
    have hB2 := hb0.trans (hb2.mono hb0.size)
    have k2 := k0.next' hb2
    clear d0 d1 k0
    obtain ⟨d0, d1⟩ := bkA k2
    go_wp2
    go_ret
    exact ⟨hB2, rfl⟩
  by_cases hok : 1 ≤ red ∧ red ≤ 5
  · obtain rfl := HOK.out rfl ⟨⟨by omega, h1⟩, hok⟩
    rw [decide_eq_true hok] at IR
    clear HBAD HARG HOK hok
    go_enter Tryz.func107, Tryz.ntmps107
    go_wp2_with fail
    refine VV.out.mono ?_
    rintro e w2 ⟨hb2, rfl⟩
    have hB2 := hb0.trans (hb2.mono hb0.size)
    have k2 := k0.next' hb2
    clear d0 d1 k0
    obtain ⟨d0, d1⟩ := bkA k2
    go_wp2_with fail
    refine (IR.out w2).mono ?_
    rintro e w3 ⟨rfl, rfl⟩
    go_wp2
    go_ret
    exact ⟨hB2, rfl⟩
  · obtain rfl := HARG.out rfl (fun h => hok h.2)
    rw [decide_eq_false hok] at IR
    clear HBAD HARG HOK hok
    go_enter Tryz.func107, Tryz.ntmps107
    go_wp2_with fail
    refine VV.out.mono ?_
    rintro e w2 ⟨hb2, rfl⟩
    have hB2 := hb0.trans (hb2.mono hb0.size)
    have k2 := k0.next' hb2
    clear d0 d1 k0
    obtain ⟨d0, d1⟩ := bkA k2
    go_wp2_with fail
    refine (IR.out w2).mono ?_
    rintro e w3 ⟨rfl, rfl⟩
    go_wp2
    go_ret
    exact ⟨hB2, rfl⟩


set_option maxRecDepth 100000 in
set_option maxHeartbeats 800000 in
theorem rwith_any (l : List Nat) (x y c B : Nat) (A : Option Addr) (w : World) (hr : Rd w B A (zints (l.map Int.ofNat))) (hB : B ≤ w.heap.size) (hx : x < l.length) (hl : l.length ≤ 1000000) :
    Calls Tryz.prog 115 #[.slice A l.length c, .int .i64 x, .int .i64 y] w fun e w' => Below w.heap.size w w' ∧ ∃ g k, e = .returned (.slice (some ⟨g, 0, none⟩) l.length k) ∧ w'.ownsRow w.heap.size 3 1 (.slice (some ⟨g, 0, none⟩) l.length k) l.length (zints ((l.set x y).map Int.ofNat)) := by
  have CP := copied_any A l.length c (l.map Int.ofNat) w (List.length_map _) hl (hr.more hB)
  have hx0 : (0 : Int) ≤ (x : Int) := by omega
  have hx1 : (x : Int) < (l.length : Int) := by omega
  have HM : Hid ((l.map Int.ofNat).set x (y : Int) = (l.set x y).map Int.ofNat) := by show _ = _; rw [List.map_set]; rfl
  clear hr hB
  go_enter Tryz.func115, Tryz.ntmps115
  go_wp2_with fail
  refine CP.mono ?_
  rintro e w2 ⟨hb2, v, rfl, hown⟩
  obtain ⟨g, k, rfl, hg, hg', ⟨z, hz⟩, hf, hput⟩ := own_put hown hx
  have hO := Lib.hid (hput (y : Int))
  rw [HM.out] at hO
  have hB2 := hb2.setCell (p := ⟨g, x, none⟩) (by exact hg) (.int .i64 (y : Int))
  clear hown hput hb2
  go_wp2
  go_ret
  exact ⟨hB2, _, _, rfl, hO.out⟩

set_option maxRecDepth 100000 in
set_option maxHeartbeats 3200000 in
theorem ralong_any (S : List Int) (V : List ByteArray) (x N : Nat) (I : List Nat) (va vI : Value) (w : World) (ha : IsA w w.heap.size va (S, V)) (hI : IsI w w.heap.size vI (I.map Int.ofNat)) (hVS : VS S) (hl : V.length = Ix.prod (S.map Int.toNat)) (hx : x < S.length) (hIl : I.length = S.length)
    (hN : N = (S.map Int.toNat).getD x 0) (hin : ∀ p, p < N → Inside (S.map Int.toNat) (I.set x p)) :
    Calls Tryz.prog 108 #[va, .int .i64 x, vI] w fun e w' => Below w.heap.size w w' ∧ ∃ u, e = .returned u ∧ IsT w' w'.heap.size u (alV (S.map Int.toNat) V x I (List.range N)) := by
  obtain ⟨A, c, A', c', rfl, hc, hc'⟩ := ha.form
  obtain ⟨hS, hT⟩ := ha.parts
  obtain ⟨Ai, ci, hie, -⟩ := hI.form
  rw [List.length_map, hIl] at hie
  subst hie
  simp only at hS hT hc hc'
  have hS4 := hVS.1
  have hx0 : (0 : Int) ≤ (x : Int) := by omega
  have hx1 : (x : Int) < (S.length : Int) := by omega
  have hSx : S[x] = (N : Int) := by
    have h0 := (hVS.2.1 _ (List.getElem_mem hx)).1
    rw [hN, getD_in (by rw [List.length_map]; exact hx), List.getElem_map, Int.toNat_of_nonneg h0]
  have hN1 : N ≤ 1024 := by have := (hVS.2.1 _ (List.getElem_mem hx)).2; omega
  have HMK := make_strs N (N : Int) rfl (by omega)
  obtain ⟨f, hf⟩ : ∃ f, f = fun p => V.getD (place (S.map Int.toNat) (I.set x p)) ⟨#[]⟩ := ⟨_, rfl⟩
  have HAL : Hid (soFar f N N = alV (S.map Int.toNat) V x I (List.range N)) := by show _ = _; rw [soFar_all, hf]; rfl
  have HS1 := Lib.hid (fun W (hW : Below w.heap.size w W) => show ∃ ad, A = some ad ∧ W.cell? (ad.add x) = some (.int .i64 (N : Int)) from by
    obtain ⟨ad, e1, e2, e3⟩ := (hS.rd.below hW).zint hx
    exact ⟨ad, e1, by rw [e3, hSx]⟩)
  have WI := Lib.hid (fun (p : Nat) (_ : p < N) W (hW : Below w.heap.size w W) => rwith_any I x p ci w.heap.size Ai W (hI.rd.below hW) hW.size (by rw [hIl]; exact hx) (by omega))
  rw [hIl] at WI
  have PL := Lib.hid (fun (p : Nat) (hp : p < N) W (hW : Below w.heap.size w W) (g k : Nat) (hg : Rd W W.heap.size (some ⟨g, 0, none⟩) (zints ((I.set x p).map Int.ofNat))) => show Calls Tryz.prog 69 #[.slice A S.length c, .slice (some ⟨g, 0, none⟩) S.length k] W fun e w' => Below W.heap.size W w' ∧ e = .returned (.int .i64 (place (S.map Int.toNat) (I.set x p) : Nat)) from by
    have h := rplace_any (S.map Int.toNat) (I.set x p) A (some ⟨g, 0, none⟩) c k w.heap.size W.heap.size W hVS.sz (hin p hp) (by rw [← hVS.cells]; exact hS.rd.below hW) (by rw [← zints_nat]; exact hg) hW.size (Nat.le_refl _)
    rwa [List.length_map] at h)
  have VC := Lib.hid (fun W (hW : Below w.heap.size w W) p (hp : p < N) => show ∃ ad, A' = some ad ∧ place (S.map Int.toNat) (I.set x p) < V.length ∧ W.cell? (ad.add (place (S.map Int.toNat) (I.set x p))) = some (.string (f p)) from by
    have hm : place (S.map Int.toNat) (I.set x p) < V.length := by rw [hl]; exact place_lt _ _ (hin p hp)
    obtain ⟨ad, e1, e2, e3⟩ := hT.rd.str hm
    refine ⟨ad, e1, hm, ?_⟩
    rw [hf]
    show _ = some (Value.string (V.getD _ _))
    rw [List.getD_eq_getElem?_getD, List.getElem?_eq_getElem hm]
    exact (hW.cell (p := ad.add _) (World.block_lt_of_cell? _ _ e3)).trans e3)
  have hb0 := below_alloc w (.cells #[.slice A S.length c, .slice A' V.length c'] 25)
  have k0 := Bk.new w 25 #[Value.slice A S.length c, .slice A' V.length c']
  obtain ⟨ad, rfl, hcx⟩ := HS1.out _ hb0
  have hz1 : (w.alloc (.cells #[.slice (some ad) S.length c, .slice A' V.length c'] 25)).heap.size = w.heap.size + 1 := by simp
  obtain ⟨b0, b1⟩ := bkA k0
  have hb1 := hb0.alloc hb0.size (.cells (strs (List.replicate N ⟨#[]⟩)).toArray 9)
  have k1 := k0.alloc (.cells (strs (List.replicate N ⟨#[]⟩)).toArray 9)
  have kr := Bk.new (w.alloc (.cells #[.slice (some ad) S.length c, .slice A' V.length c'] 25)) 9 (strs (List.replicate N ⟨#[]⟩)).toArray
  rw [hz1] at kr
  have HSF := Lib.hid (fun k (hk : k < N) => soFar_next f hk)
  have HSL := Lib.hid (fun k (hk : k ≤ N) => soFar_len f hk)
  have HVL : Hid (V.length ≤ 4096) := by show _ ≤ _; rw [hl]; exact hVS.2.2
  clear ha hS hT hI hVS hl hIl hN hin hSx hf HS1
  go_enter Tryz.func108, Tryz.ntmps108
  go_wp2_with fail
  generalize ((w.alloc (.cells #[.slice (some ad) S.length c, .slice A' V.length c'] 25)).alloc (.cells (strs (List.replicate N ⟨#[]⟩)).toArray 9)) = W1 at *
  go_loopw [8] (fun i wr => ∃ k : Nat, k ≤ N ∧ i = .int .i64 k ∧ Bk wr w.heap.size 25 #[.slice (some ad) S.length c, .slice A' V.length c'] ∧ Bk wr (w.heap.size + 1) 9 (strs (soFar f N k)).toArray ∧ Below w.heap.size w wr) (fun i _ => N - (intOf i).toNat)
  case atStart => exact ⟨0, Nat.zero_le _, rfl, k1, by rw [soFar_zero]; exact kr, hb1⟩
  case round =>
    clear hb0 k0 hcx hz1 b0 b1 hb1 k1 kr HMK
    obtain ⟨k, hk, rfl, ka, kv, hB⟩ := hrel
    by_cases hlt : k < N
    · obtain ⟨adv, rfl, hmV, hcv⟩ := VC.out wr hB k hlt
      have PLk := Lib.hid (fun W hW g kc hg => PL.out k hlt W hW g kc hg)
      have WIk := Lib.hid (WI.out k hlt)
      have VCk := Lib.hid (fun W (hW : Below w.heap.size w W) => show W.cell? (adv.add (place (S.map Int.toNat) (I.set x k))) = some (.string (f k)) from by
        obtain ⟨ad', e1, -, e2⟩ := VC.out W hW k hlt
        injection e1 with e1
        subst e1
        exact e2)
      have HNX := Lib.hid (HSF.out k hlt)
      have hvl := HVL.out
      generalize place (S.map Int.toNat) (I.set x k) = m at *
      generalize f k = tx at *
      have m0 : (0 : Int) ≤ (m : Int) := by omega
      have m1 : (m : Int) < (V.length : Int) := by omega
      have j0 : (0 : Int) ≤ (k : Int) := by omega
      have j1 : (k : Int) < (N : Int) := by omega
      obtain ⟨b0, b1⟩ := bkA ka
      clear HSF hmV
      go_wp2_with fail
      refine wp_region_M 14 (by kernel_rfl) (fun Y => (Y.cell? ⟨w.heap.size, 0, none⟩ = some (.slice (some ad) S.length c) ∧ Y.cell? ⟨w.heap.size, 1, none⟩ = some (.slice (some adv) V.length c')) ∧ Y.cell? (adv.add m) = some (.string tx)) ⟨⟨b0, b1⟩, hcv⟩ (fun hS0 => ?_)
      clear b0 b1 hcv
      have ka2 := ka.drew
      have kv2 := kv.drew
      have hB2 : Below w.heap.size w wr.drew := hB.drew
      clear ka kv hB
      generalize wr.drew = w2 at *
      refine takeM (i := 0) (v := ?_) rfl (by kernel_rfl) (by decide) (by kernel_rfl) (by kernel_rfl) (by kernel_rfl) (fun _ _ _ h => h) (by rfl) (by assumption) ?_ ?_
      rotate_left
      · intro w hSw; (try dsimp only at hSw); go_simp <;> with_reducible rfl
      try simp only [Act.put, List.setIfInBounds_toArray, List.set_cons_zero, List.set_cons_succ]
      refine takeM (i := 1) (v := ?_) rfl (by kernel_rfl) (by decide) (by kernel_rfl) (by kernel_rfl) (by kernel_rfl) (fun _ _ _ h => h) (by rfl) (by assumption) ?_ ?_
      rotate_left
      · intro w hSw; (try dsimp only at hSw); go_simp <;> with_reducible rfl
      try simp only [Act.put, List.setIfInBounds_toArray, List.set_cons_zero, List.set_cons_succ]
      refine takeM (i := 2) (v := ?_) rfl (by kernel_rfl) (by decide) (by kernel_rfl) (by kernel_rfl) (by kernel_rfl) (fun _ _ _ h => h) (by rfl) (by assumption) ?_ ?_
      rotate_left
      · intro w hSw; (try dsimp only at hSw); go_simp <;> with_reducible rfl
      try simp only [Act.put, List.setIfInBounds_toArray, List.set_cons_zero, List.set_cons_succ]
      refine takeM (i := 3) (v := ?_) rfl (by kernel_rfl) (by decide) (by kernel_rfl) (by kernel_rfl) (by kernel_rfl) (fun _ _ _ h => h) (by rfl) (by assumption) ?_ ?_
      rotate_left
      · intro w hSw; (try dsimp only at hSw); go_simp <;> with_reducible rfl
      try simp only [Act.put, List.setIfInBounds_toArray, List.set_cons_zero, List.set_cons_succ]
      refine takeM (i := 4) (v := ?_) rfl (by kernel_rfl) (by decide) (by kernel_rfl) (by kernel_rfl) (by kernel_rfl) (fun _ _ _ h => h) (by rfl) (by assumption) ?_ ?_
      rotate_left
      · intro w hSw; (try dsimp only at hSw); go_simp <;> with_reducible rfl
      try simp only [Act.put, List.setIfInBounds_toArray, List.set_cons_zero, List.set_cons_succ]
      refine takeM (i := 5) (v := ?_) rfl (by kernel_rfl) (by decide) (by kernel_rfl) (by kernel_rfl) (by kernel_rfl) (fun _ _ _ h => h) (by rfl) (by assumption) ?_ ?_
      rotate_left
      · intro w hSw; (try dsimp only at hSw); go_simp <;> with_reducible rfl
      try simp only [Act.put, List.setIfInBounds_toArray, List.set_cons_zero, List.set_cons_succ]
      refine takeM (i := 6) (v := ?_) rfl (by kernel_rfl) (by decide) (by kernel_rfl) (by kernel_rfl) (by kernel_rfl) (fun _ _ _ h => h) (by rfl) (by assumption) ?_ ?_
      rotate_left
      · intro w hSw; (try dsimp only at hSw); go_simp <;> with_reducible rfl
      try simp only [Act.put, List.setIfInBounds_toArray, List.set_cons_zero, List.set_cons_succ]
      refine takeM (i := 7) (v := ?_) rfl (by kernel_rfl) (by decide) (by kernel_rfl) (by kernel_rfl) (by kernel_rfl) (fun _ _ _ h => h) (by rfl) (by assumption) ?_ ?_
      rotate_left
      · intro w hSw; (try dsimp only at hSw); go_simp <;> with_reducible rfl
      try simp only [Act.put, List.setIfInBounds_toArray, List.set_cons_zero, List.set_cons_succ]
      refine takeM (i := 8) (v := ?_) rfl (by kernel_rfl) (by decide) (by kernel_rfl) (by kernel_rfl) (by kernel_rfl) (fun _ _ _ h => h) (by rfl) (by assumption) ?_ ?_
      rotate_left
      · intro w hSw; (try dsimp only at hSw); go_simp <;> with_reducible rfl
      try simp only [Act.put, List.setIfInBounds_toArray, List.set_cons_zero, List.set_cons_succ]
      clear hS0
      have WI2 := Lib.hid (WIk.out w2 hB2)
      refine stepM (i := 9) rfl (by kernel_rfl) (fun K0 hK0 => ?_)
      go_simp
      refine WI2.out.mono ?_
      rintro e w3 ⟨hb3, g, kc, rfl, hO⟩
      have hB3 := hB2.trans (hb3.mono hB2.size)
      have ka3 := ka2.next' hb3
      have kv3 := kv2.next' hb3
      have hS3 := And.intro (bkA ka3) (VCk.out w3 hB3)
      have PL3 := Lib.hid (PLk.out w3 hB3 g kc (Rd.of_own hO))
      dsimp only
      refine hK0.out _ _ (fun _ => hS3) (fun _ => ?_)
      clear hK0 K0 hS3 WI2 hO hb3 ka2 kv2 hB2
      try simp only [Act.put, List.setIfInBounds_toArray, List.set_cons_zero, List.set_cons_succ]
      refine stepM (i := 10) rfl (by kernel_rfl) (fun K0 hK0 => ?_)
      go_simp
      refine PL3.out.mono ?_
      rintro e w4 ⟨hb4, rfl⟩
      have hB4 := hB3.trans (hb4.mono hB3.size)
      have ka4 := ka3.next' hb4
      have kv4 := kv3.next' hb4
      have hS4 := And.intro (bkA ka4) (VCk.out w4 hB4)
      dsimp only
      refine hK0.out _ _ (fun _ => hS4) (fun _ => ?_)
      clear hK0 K0 PL3 hb4 ka3 kv3 hB3
      try simp only [Act.put, List.setIfInBounds_toArray, List.set_cons_zero, List.set_cons_succ]
      refine takeM (i := 11) (v := ?_) rfl (by kernel_rfl) (by decide) (by kernel_rfl) (by kernel_rfl) (by kernel_rfl) (fun _ _ _ h => h) (by rfl) (by assumption) ?_ ?_
      rotate_left
      · intro w hSw; (try dsimp only at hSw); go_simp <;> with_reducible rfl
      try simp only [Act.put, List.setIfInBounds_toArray, List.set_cons_zero, List.set_cons_succ]
      refine takeM (i := 12) (v := ?_) rfl (by kernel_rfl) (by decide) (by kernel_rfl) (by kernel_rfl) (by kernel_rfl) (fun _ _ _ h => h) (by rfl) (by assumption) ?_ ?_
      rotate_left
      · intro w hSw; (try dsimp only at hSw); go_simp <;> with_reducible rfl
      try simp only [Act.put, List.setIfInBounds_toArray, List.set_cons_zero, List.set_cons_succ]
      refine takeM (i := 13) (v := ?_) rfl (by kernel_rfl) (by decide) (by kernel_rfl) (by kernel_rfl) (by kernel_rfl) (fun _ _ _ h => h) (by rfl) (by assumption) ?_ ?_
      rotate_left
      · intro w hSw; (try dsimp only at hSw); go_simp <;> with_reducible rfl
      try simp only [Act.put, List.setIfInBounds_toArray, List.set_cons_zero, List.set_cons_succ]
      clear hS4
      have hv4 := kv4.cell k
      rw [strs_at (by rw [HSL.out k (by omega)]; exact hlt)] at hv4
      have hf4 := kv4.frozen k
      have kv5 := kv4.put k (.string tx)
      rw [strs_set, HNX.out] at kv5
      have ka5 := ka4.far (p := ⟨w.heap.size + 1, k, none⟩) (by show w.heap.size ≠ w.heap.size + 1; omega) (.string tx)
      have hB5 := hB4.setCell (p := ⟨w.heap.size + 1, k, none⟩) (by show w.heap.size ≤ w.heap.size + 1; omega) (.string tx)
      refine stepM (i := 14) rfl (by kernel_rfl) (fun K0 hK0 => ?_)
      go_simp
      refine hK0.out _ _ (fun h => absurd rfl h) (fun _ => ?_)
      clear hK0 K0 hv4 hf4 kv4 ka4 hB4
      try simp only [Act.put, List.setIfInBounds_toArray, List.set_cons_zero, List.set_cons_succ]
      refine doneM (by kernel_rfl) ?_ _
      generalize w4.setCell ⟨w.heap.size + 1, k, none⟩ (.string tx) = w5 at *
      go_wp2
      go_roundw
      case rel => exact ⟨k + 1, by omega, by go_num, ka5, kv5, hB5⟩
      case measure => simp [intOf]; omega
    · obtain rfl : k = N := by omega
      rw [HAL.out] at kv
      have hT := IsT.of_bk kv
      rw [alV_len, List.length_range] at hT
      have HT := Lib.hid hT
      clear hT kv ka
      go_wp2
      go_ret
      exact ⟨hB, _, rfl, HT.out⟩
end Go.Proofs.YtgnffedncjjkfaaGreatDoor

namespace Go.Proofs.YtgnffedncjjkfaaGreatDoor
open Go.RowKit Ix Ar

theorem chkR_or (a : Arr) (x red : Int) : (chkR a x red = 60 ∧ ¬ VA a) ∨ (chkR a x red = 2 ∧ VA a ∧ ¬ AxOk a x red) ∨ (chkR a x red = 0 ∧ VA a ∧ AxOk a x red) := by
  unfold chkR
  by_cases h : VA a
  · rw [if_pos h]
    by_cases k : AxOk a x red
    · rw [if_pos k]; exact .inr (.inr ⟨rfl, h, k⟩)
    · rw [if_neg k]; exact .inr (.inl ⟨rfl, h, k⟩)
  · rw [if_neg h]; exact .inl ⟨rfl, h⟩
theorem wnd_pos {n : Int} {k s : Nat} (hk : k < s) : (∀ p ∈ wnd n k, p < s) ∧ (wnd n k).length ≤ s := by
  unfold wnd
  refine ⟨fun p hp => ?_, by rw [List.length_range']; omega⟩
  have := List.mem_range'_1.1 hp
  omega
theorem along_window {S : List Int} {V : List ByteArray} {x : Nat} {red n : Int} (hS : VS S) (hx : x < S.length) : alongR (S, V) x red ((S.map Int.toNat).getD x 0) (wnd n) = ((S, alongV (S.map Int.toNat) V x red ((S.map Int.toNat).getD x 0) (wnd n)), 0) := by
  have e : S.set ((x : Int)).toNat (((S.map Int.toNat).getD x 0 : Nat) : Int) = S := by
    have h0 := (hS.2.1 _ (List.getElem_mem hx)).1
    rw [Int.toNat_natCast, getD_in (by rw [List.length_map]; exact hx), List.getElem_map, Int.toNat_of_nonneg h0]
    exact List.set_getElem_self hx
  unfold alongR
  simp only
  rw [e, if_pos hS, Int.toNat_natCast]

set_option maxRecDepth 100000 in
set_option maxHeartbeats 3200000 in
theorem window_any (a : Arr) (x red n : Int) (va : Value) (w : World) (ha : IsA w w.heap.size va a) (hi : InA a) (he : Env w) (her : EnvR w) (hV2 : a.2.length ≤ 5000) (hn : n ≤ 9223372036854775807) :
    Calls Tryz.prog 51 #[va, .int .i64 x, .int .i64 red, .int .i64 n] w fun e w' => Below w.heap.size w w' ∧ ∃ u, e = .returned (.tuple #[u, .int .i64 (windowR a x red n).2]) ∧ IsA w' w'.heap.size u (windowR a x red n).1 := by
  obtain ⟨A, c, A', c', rfl, hc, hc'⟩ := ha.form
  have hha := ha
  obtain ⟨hS, hT⟩ := ha.parts
  obtain ⟨S, V⟩ := a
  simp only at hS hT hc hc' hV2
  have CK := Lib.hid (fun W (hW : Below w.heap.size w W) => checked_any (S, V) x red _ W (hha.next hW) hi (he.next hW))
  have B0 := BxW.start3 w 25 3 25 #[.slice A S.length c, .slice A' V.length c'] #[.int .i64 n] #[.slice none 0 0, .slice none 0 0]
  rcases chkR_or (S, V) x red with ⟨h1, h2⟩ | ⟨h1, h2, h3⟩ | ⟨h1, h2, h3⟩
  · rw [windowR_bad h2]
    rw [h1] at CK
    clear hS hT hi he her hha ha
    go_enter Tryz.func51, Tryz.ntmps51
    obtain ⟨b0, b1⟩ := bkA B0.one
    go_wp2_with fail
    generalize (((w.alloc (.cells #[.slice A S.length c, .slice A' V.length c'] 25)).alloc (.cells #[.int .i64 n] 3)).alloc (.cells #[.slice none 0 0, .slice none 0 0] 25)) = W0 at *
    refine (CK.out W0 B0.below).mono ?_
    rintro e w1 ⟨hb1, rfl⟩
    have B1 := B0.next hb1
    clear b0 b1
    obtain ⟨d0, d1⟩ := bkA B1.three
    have f0 := B1.three.frozen 0
    have f1 := B1.three.frozen 1
    go_wp2
    refine bodyPost_ret (v := .tuple #[.agg #[.slice none 0 0, .slice none 0 0], .int .i64 60]) (by simp [results, Tryz.results51, go_sem, d0, d1]) rfl ?_
    exact ⟨(B1.below.setCell (p := ⟨w.heap.size + 2, 0, none⟩) (by simp) _).setCell (p := ⟨w.heap.size + 2, 1, none⟩) (by simp) _, _, rfl, IsA.zero _ _⟩
  · rw [windowR_arg h2 (fun h => h3 h.1)]
    rw [h1] at CK
    clear hS hT hi he her hha ha
    go_enter Tryz.func51, Tryz.ntmps51
    obtain ⟨b0, b1⟩ := bkA B0.one
    go_wp2_with fail
    generalize (((w.alloc (.cells #[.slice A S.length c, .slice A' V.length c'] 25)).alloc (.cells #[.int .i64 n] 3)).alloc (.cells #[.slice none 0 0, .slice none 0 0] 25)) = W0 at *
    refine (CK.out W0 B0.below).mono ?_
    rintro e w1 ⟨hb1, rfl⟩
    have B1 := B0.next hb1
    clear b0 b1
    obtain ⟨d0, d1⟩ := bkA B1.three
    have f0 := B1.three.frozen 0
    have f1 := B1.three.frozen 1
    go_wp2
    refine bodyPost_ret (v := .tuple #[.agg #[.slice none 0 0, .slice none 0 0], .int .i64 2]) (by simp [results, Tryz.results51, go_sem, d0, d1]) rfl ?_
    exact ⟨(B1.below.setCell (p := ⟨w.heap.size + 2, 0, none⟩) (by simp) _).setCell (p := ⟨w.heap.size + 2, 1, none⟩) (by simp) _, _, rfl, IsA.zero _ _⟩
  by_cases hn1 : n < 1
  · rw [windowR_arg h2 (fun h => by have := h.2; omega)]
    rw [h1] at CK
    clear hS hT hi he her hha ha
    go_enter Tryz.func51, Tryz.ntmps51
    obtain ⟨b0, b1⟩ := bkA B0.one
    go_wp2_with fail
    generalize (((w.alloc (.cells #[.slice A S.length c, .slice A' V.length c'] 25)).alloc (.cells #[.int .i64 n] 3)).alloc (.cells #[.slice none 0 0, .slice none 0 0] 25)) = W0 at *
    refine (CK.out W0 B0.below).mono ?_
    rintro e w1 ⟨hb1, rfl⟩
    have B1 := B0.next hb1
    clear b0 b1
    have x0 : w1.cell? ⟨w.heap.size + 1, 0, none⟩ = some (Value.int .i64 n) := B1.two.cell 0
    obtain ⟨d0, d1⟩ := bkA B1.three
    have f0 := B1.three.frozen 0
    have f1 := B1.three.frozen 1
    go_wp2
    refine bodyPost_ret (v := .tuple #[.agg #[.slice none 0 0, .slice none 0 0], .int .i64 2]) (by simp [results, Tryz.results51, go_sem, d0, d1]) rfl ?_
    exact ⟨(B1.below.setCell (p := ⟨w.heap.size + 2, 0, none⟩) (by simp) _).setCell (p := ⟨w.heap.size + 2, 1, none⟩) (by simp) _, _, rfl, IsA.zero _ _⟩
  rw [windowR_ok h2 ⟨h3, by omega⟩]
  rw [h1] at CK
  obtain ⟨⟨hx0, hxS⟩, h4, h5⟩ := h3
  obtain ⟨y, rfl⟩ : ∃ y : Nat, x = (y : Int) := ⟨x.toNat, by omega⟩
  simp only [Int.toNat_natCast] at hxS ⊢
  have hyS : y < S.length := by omega
  have hVS : VS S := h2.1
  obtain ⟨N, hN⟩ : ∃ N, N = (S.map Int.toNat).getD y 0 := ⟨_, rfl⟩
  have hNz : ∃ z : Int, z = (N : Int) ∧ S[y] = z := by
    have h0 := (hVS.2.1 _ (List.getElem_mem hyS)).1
    refine ⟨_, rfl, ?_⟩
    rw [hN, getD_in (by rw [List.length_map]; exact hyS), List.getElem_map, Int.toNat_of_nonneg h0]
  have hN1 : N ≤ 1024 := by
    obtain ⟨z, hz, hz2⟩ := hNz
    have := (hVS.2.1 _ (List.getElem_mem hyS)).2
    omega
  have HAW : Hid (alongR (S, V) y red N (wnd n) = ((S, alongV (S.map Int.toNat) V y red N (wnd n)), 0)) := by
    show _ = _
    rw [hN]; exact along_window hVS hyS
  have AL := Lib.hid (fun W (hW : Below w.heap.size w W) (hx1 : W.cell? ⟨w.heap.size + 1, 0, none⟩ = some (Value.int .i64 n)) => along_any (S, V) y red N _ 105 #[.pointer (some ⟨w.heap.size + 1, 0, none⟩)] (enters_of Tryz.func105 (by kernel_rfl) rfl) (wnd n) W (hha.next hW) (he.next hW) (her.next hW) h2 hyS h4 h5 hV2 (by omega)
    (fun k hk => wnd_pos (by rw [← hN]; exact hk)) (fun k W2 hk hW2 => window1_any k (w.heap.size + 1) n W2 (by omega) (by omega) hn ((hW2.cell (p := ⟨w.heap.size + 1, 0, none⟩) (World.block_lt_of_cell? _ _ hx1)).trans hx1)))
  rw [← hN]
  have HS1 := Lib.hid (fun W (hW : Below w.heap.size w W) => show ∃ ad, A = some ad ∧ W.cell? (ad.add y) = some (.int .i64 (N : Int)) from by
    obtain ⟨ad, e1, e2, e3⟩ := (hS.rd.below hW).zint hyS
    obtain ⟨z, hz, hz2⟩ := hNz
    refine ⟨ad, e1, ?_⟩
    rw [e3, hz2, hz])
  have hxS' : (y : Int) < (S.length : Int) := hxS
  clear hS hT hi he her hha ha hNz hN hVS h2 hyS
  go_enter Tryz.func51, Tryz.ntmps51
  obtain ⟨b0, b1⟩ := bkA B0.one
  go_wp2_with fail
  generalize (((w.alloc (.cells #[.slice A S.length c, .slice A' V.length c'] 25)).alloc (.cells #[.int .i64 n] 3)).alloc (.cells #[.slice none 0 0, .slice none 0 0] 25)) = W0 at *
  refine (CK.out W0 B0.below).mono ?_
  rintro e w1 ⟨hb1, rfl⟩
  have B1 := B0.next hb1
  clear b0 b1 CK B0 hb1
  have x0 : w1.cell? ⟨w.heap.size + 1, 0, none⟩ = some (Value.int .i64 n) := B1.two.cell 0
  obtain ⟨b0, b1⟩ := bkA B1.one
  obtain ⟨ad, rfl, hcy⟩ := HS1.out w1 B1.below
  go_wp2_with fail
  refine wp_region_M 13 (by kernel_rfl) (fun Y => (Y.cell? ⟨w.heap.size, 0, none⟩ = some (.slice (some ad) S.length c) ∧ Y.cell? ⟨w.heap.size, 1, none⟩ = some (.slice A' V.length c')) ∧ Y.cell? (ad.add y) = some (.int .i64 (N : Int))) ⟨⟨b0, b1⟩, hcy⟩ (fun hS0 => ?_)
  clear b0 b1 hcy x0
  have B2 := B1.drew
  clear B1
  generalize w1.drew = w2 at *
  refine takeM (i := 0) (v := ?_) rfl (by kernel_rfl) (by decide) (by kernel_rfl) (by kernel_rfl) (by kernel_rfl) (fun _ _ _ h => h) (by rfl) (by assumption) ?_ ?_
  rotate_left
  · intro w hSw; (try dsimp only at hSw); go_simp <;> with_reducible rfl
  try simp only [Act.put, List.setIfInBounds_toArray, List.set_cons_zero, List.set_cons_succ]
  refine takeM (i := 1) (v := ?_) rfl (by kernel_rfl) (by decide) (by kernel_rfl) (by kernel_rfl) (by kernel_rfl) (fun _ _ _ h => h) (by rfl) (by assumption) ?_ ?_
  rotate_left
  · intro w hSw; (try dsimp only at hSw); go_simp <;> with_reducible rfl
  try simp only [Act.put, List.setIfInBounds_toArray, List.set_cons_zero, List.set_cons_succ]
  refine takeM (i := 2) (v := ?_) rfl (by kernel_rfl) (by decide) (by kernel_rfl) (by kernel_rfl) (by kernel_rfl) (fun _ _ _ h => h) (by rfl) (by assumption) ?_ ?_
  rotate_left
  · intro w hSw; (try dsimp only at hSw); go_simp <;> with_reducible rfl
  try simp only [Act.put, List.setIfInBounds_toArray, List.set_cons_zero, List.set_cons_succ]
  refine takeM (i := 3) (v := ?_) rfl (by kernel_rfl) (by decide) (by kernel_rfl) (by kernel_rfl) (by kernel_rfl) (fun _ _ _ h => h) (by rfl) (by assumption) ?_ ?_
  rotate_left
  · intro w hSw; (try dsimp only at hSw); go_simp <;> with_reducible rfl
  try simp only [Act.put, List.setIfInBounds_toArray, List.set_cons_zero, List.set_cons_succ]
  refine takeM (i := 4) (v := ?_) rfl (by kernel_rfl) (by decide) (by kernel_rfl) (by kernel_rfl) (by kernel_rfl) (fun _ _ _ h => h) (by rfl) (by assumption) ?_ ?_
  rotate_left
  · intro w hSw; (try dsimp only at hSw); go_simp <;> with_reducible rfl
  try simp only [Act.put, List.setIfInBounds_toArray, List.set_cons_zero, List.set_cons_succ]
  refine takeM (i := 5) (v := ?_) rfl (by kernel_rfl) (by decide) (by kernel_rfl) (by kernel_rfl) (by kernel_rfl) (fun _ _ _ h => h) (by rfl) (by assumption) ?_ ?_
  rotate_left
  · intro w hSw; (try dsimp only at hSw); go_simp <;> with_reducible rfl
  try simp only [Act.put, List.setIfInBounds_toArray, List.set_cons_zero, List.set_cons_succ]
  refine takeM (i := 6) (v := ?_) rfl (by kernel_rfl) (by decide) (by kernel_rfl) (by kernel_rfl) (by kernel_rfl) (fun _ _ _ h => h) (by rfl) (by assumption) ?_ ?_
  rotate_left
  · intro w hSw; (try dsimp only at hSw); go_simp <;> with_reducible rfl
  try simp only [Act.put, List.setIfInBounds_toArray, List.set_cons_zero, List.set_cons_succ]
  refine takeM (i := 7) (v := ?_) rfl (by kernel_rfl) (by decide) (by kernel_rfl) (by kernel_rfl) (by kernel_rfl) (fun _ _ _ h => h) (by rfl) (by assumption) ?_ ?_
  rotate_left
  · intro w hSw; (try dsimp only at hSw); go_simp <;> with_reducible rfl
  try simp only [Act.put, List.setIfInBounds_toArray, List.set_cons_zero, List.set_cons_succ]
  refine takeM (i := 8) (v := ?_) rfl (by kernel_rfl) (by decide) (by kernel_rfl) (by kernel_rfl) (by kernel_rfl) (fun _ _ _ h => h) (by rfl) (by assumption) ?_ ?_
  rotate_left
  · intro w hSw; (try dsimp only at hSw); go_simp <;> with_reducible rfl
  try simp only [Act.put, List.setIfInBounds_toArray, List.set_cons_zero, List.set_cons_succ]
  clear hS0
  have AL2 := Lib.hid (AL.out w2 B2.below (B2.two.cell 0))
  rw [HAW.out] at AL2
  simp only at AL2
  refine stepM (i := 9) rfl (by kernel_rfl) (fun K0 hK0 => ?_)
  go_simp
  refine AL2.out.mono ?_
  rintro e w3 ⟨hb3, u, rfl, hu, -⟩
  have B3 := B2.next hb3
  obtain ⟨A1, c1, A2, c2, rfl, -, -⟩ := hu.form
  simp only at hu
  have hS3 := And.intro (bkA B3.one) (show w3.cell? (ad.add y) = some (.int .i64 (N : Int)) from by
    obtain ⟨ad', e1, e2⟩ := HS1.out w3 B3.below
    injection e1 with e1
    subst e1
    exact e2)
  dsimp only
  refine hK0.out _ _ (fun _ => hS3) (fun _ => ?_)
  clear hK0 K0 AL2 AL
  try simp only [Act.put, List.setIfInBounds_toArray, List.set_cons_zero, List.set_cons_succ]
  refine takeM (i := 10) (v := ?_) rfl (by kernel_rfl) (by decide) (by kernel_rfl) (by kernel_rfl) (by kernel_rfl) (fun _ _ _ h => h) (by rfl) (by assumption) ?_ ?_
  rotate_left
  · intro w hSw; (try dsimp only at hSw); go_simp <;> with_reducible rfl
  try simp only [Act.put, List.setIfInBounds_toArray, List.set_cons_zero, List.set_cons_succ]
  refine takeM (i := 11) (v := ?_) rfl (by kernel_rfl) (by decide) (by kernel_rfl) (by kernel_rfl) (by kernel_rfl) (fun _ _ _ h => h) (by rfl) (by assumption) ?_ ?_
  rotate_left
  · intro w hSw; (try dsimp only at hSw); go_simp <;> with_reducible rfl
  try simp only [Act.put, List.setIfInBounds_toArray, List.set_cons_zero, List.set_cons_succ]
  clear hS3
  obtain ⟨d0, d1⟩ := bkA B3.three
  have f0 := B3.three.frozen 0
  have f1 := B3.three.frozen 1
  have hB4 := (B3.below.setCell (p := ⟨w.heap.size + 2, 0, none⟩) (by simp) (.slice A1 S.length c1)).setCell (p := ⟨w.heap.size + 2, 1, none⟩) (by simp) (.slice A2 (alongV (S.map Int.toNat) V y red N (wnd n)).length c2)
  have hu4 := hu.ret d0 d1 (.slice A1 S.length c1) (.slice A2 (alongV (S.map Int.toNat) V y red N (wnd n)).length c2)
  have k4 := ((B3.one.far (p := ⟨w.heap.size + 2, 0, none⟩) (by simp) (.slice A1 S.length c1)).far (p := ⟨w.heap.size + 2, 1, none⟩) (by simp) (.slice A2 (alongV (S.map Int.toNat) V y red N (wnd n)).length c2))
  have hr4 := (B3.three.put 0 (.slice A1 S.length c1)).put 1 (.slice A2 (alongV (S.map Int.toNat) V y red N (wnd n)).length c2)
  have hS4 := And.intro (bkA k4) (show ((w3.setCell ⟨w.heap.size + 2, 0, none⟩ (.slice A1 S.length c1)).setCell ⟨w.heap.size + 2, 1, none⟩ (.slice A2 (alongV (S.map Int.toNat) V y red N (wnd n)).length c2)).cell? (ad.add y) = some (.int .i64 (N : Int)) from by
    obtain ⟨ad', e1, e2⟩ := HS1.out _ hB4
    injection e1 with e1
    subst e1
    exact e2)
  clear hb3 HS1 k4
  generalize hM : alongV (S.map Int.toNat) V y red N (wnd n) = M at *
  have HM := Lib.hid hM
  clear hM
  refine stepM (i := 12) rfl (by kernel_rfl) (fun K0 hK0 => ?_)
  go_simp
  refine hK0.out _ _ (fun _ => hS4) (fun _ => ?_)
  clear hK0 K0 hS4
  try simp only [Act.put, List.setIfInBounds_toArray, List.set_cons_zero, List.set_cons_succ]
  refine stepM (i := 13) rfl (by kernel_rfl) (fun K0 hK0 => ?_)
  go_simp
  refine hK0.out _ _ (fun h => absurd rfl h) (fun _ => ?_)
  clear hK0 K0
  try simp only [Act.put, List.setIfInBounds_toArray, List.set_cons_zero, List.set_cons_succ]
  refine doneM (by kernel_rfl) ?_ _
  obtain ⟨e0, e1⟩ := bkA hr4
  generalize (w3.setCell ⟨w.heap.size + 2, 0, none⟩ (.slice A1 S.length c1)).setCell ⟨w.heap.size + 2, 1, none⟩ (.slice A2 M.length c2) = w4 at *
  go_wp2
  refine bodyPost_ret (v := .tuple #[.agg #[.slice A1 S.length c1, .slice A2 M.length c2], .int .i64 0]) (by simp [results, Tryz.results51, go_sem, e0, e1]) rfl ?_
  exact ⟨hB4, _, rfl, by rw [HM.out]; exact hu4⟩
end Go.Proofs.YtgnffedncjjkfaaGreatDoor

namespace Go.Proofs.YtgnffedncjjkfaaGreatDoor
open Go.RowKit Ix Ar

theorem IsT.sub {w : World} {B n c : Nat} {ad : Addr} {l : List ByteArray} (h : IsT w B (.slice (some ad) n c) l) {a m : Nat} (ha : a + m ≤ n) (hm : 0 < m) : IsT w B (.slice (some (ad.add a)) m (c - a)) ((l.drop a).take m) := by
  obtain ⟨A, c', e, hc, hr⟩ := h
  injection e with e1 e2 e3
  subst e1
  subst e2
  subst e3
  refine ⟨some (ad.add a), c - a, ?_, by rw [List.length_take, List.length_drop, Nat.min_eq_left (by omega)]; omega, ?_⟩
  · rw [List.length_take, List.length_drop, Nat.min_eq_left (by omega)]
  · have h1 := hr.cut (k := a) (cap := c) (by rw [strs_len]; exact hc)
    rw [if_neg (by omega)] at h1
    have h2 := h1.take m
    rw [show ((strs l).drop a).take m = strs ((l.drop a).take m) by simp [strs, List.map_drop, List.map_take]] at h2
    exact h2
theorem alV_window (S : List Nat) (V : List ByteArray) (x : Nat) (I : List Nat) {N k : Nat} (n : Int) (hk : k < N) : ((alV S V x I (List.range N)).drop (k + 1 - n.toNat)).take (k + 1 - (k + 1 - n.toNat)) = alV S V x I (wnd n k) := by
  unfold alV wnd
  rw [← List.map_drop, ← List.map_take]
  congr 1
  refine List.ext_getElem (by simp; omega) (fun i h1 h2 => ?_)
  simp
theorem alV_val {S : List Nat} {V : List ByteArray} {x : Nat} {I ps : List Nat} (hv : ∀ s ∈ V, IsVal s.data.toList) : ∀ s ∈ alV S V x I ps, valB s = true ∧ s.size ≤ 300 := fun s hs => by
  obtain ⟨p, _, rfl⟩ := List.mem_map.1 hs
  have hq : IsVal (V.getD (place S (I.set x p)) ⟨#[]⟩).data.toList := by
    rw [List.getD_eq_getElem?_getD]
    cases e : V[place S (I.set x p)]? with
    | none => exact isVal_empty
    | some y => exact hv _ (List.mem_of_getElem? e)
  refine ⟨(valB_iff _).2 hq, ?_⟩
  rcases hq with h | h
  · rw [ba_list (b := ⟨#[]⟩) h]; decide
  · have := isNum_len h
    rw [size_list'] at this; omega

set_option maxRecDepth 100000 in
set_option maxHeartbeats 6400000 in
theorem rwindow_any (a : Arr) (x red n : Int) (va : Value) (w : World) (ha : IsA w w.heap.size va a) (hi : InA a) (hV2 : a.2.length ≤ 5000) (hn : n ≤ 9223372036854775807) :
    Calls Tryz.prog 52 #[va, .int .i64 x, .int .i64 red, .int .i64 n] w fun e w' => Below w.heap.size w w' ∧ ∃ u, e = .returned (.tuple #[u, .int .i64 (windowR a x red n).2]) ∧ IsA w' w'.heap.size u (windowR a x red n).1 := by
  obtain ⟨A, c, A', c', rfl, hc, hc'⟩ := ha.form
  obtain ⟨i0, hi0, hz0, hz1, hz2⟩ := info_parts Tryz.str_info
  have hha := ha
  obtain ⟨hS, hT⟩ := ha.parts
  obtain ⟨S, V⟩ := a
  simp only at hS hT hc hc' hV2
  have CK := Lib.hid (fun W (hW : Below w.heap.size w W) => raxial_any (S, V) x red _ W (hha.next hW) hi)
  have B0 := BxW.start2 w 25 25 #[.slice A S.length c, .slice A' V.length c'] #[.slice none 0 0, .slice none 0 0]
  obtain ⟨bad, hbad⟩ : ∃ b : Bool, b = true ↔ ¬ (VA (S, V) ∧ AxOk (S, V) x red ∧ 1 ≤ n) := by classical exact ⟨decide _, decide_eq_true_iff⟩
  cases bad
  rotate_left
  · obtain ⟨e9, h9, h9b, h9c⟩ : ∃ e : Int, windowR (S, V) x red n = (([], []), e) ∧ e ≠ 0 ∧ (chkR (S, V) x red = e ∨ (chkR (S, V) x red = 0 ∧ n < 1 ∧ e = 2)) := by
      have hb := hbad.1 rfl
      rcases chkR_or (S, V) x red with ⟨h1, h2⟩ | ⟨h1, h2, h3⟩ | ⟨h1, h2, h3⟩
      · exact ⟨60, windowR_bad h2, by decide, .inl h1⟩
      · exact ⟨2, windowR_arg h2 (fun h => h3 h.1), by decide, .inl h1⟩
      · have : n < 1 := by
          apply Classical.byContradiction
          intro h
          exact hb ⟨h2, h3, by omega⟩
        exact ⟨2, windowR_arg h2 (fun h => by have := h.2; omega), by decide, .inr ⟨h1, this, rfl⟩⟩
    rw [h9]
    have h9n : (e9 != 0) = true := by simp [h9b]
    have h9e : (e9 == 0) = false := by simp [h9b]
    clear hS hT hi hha ha hbad h9
    rcases h9c with h9c | ⟨h9c, h9d, rfl⟩
    all_goals
      rw [h9c] at CK
      clear h9c
      go_enter Tryz.func52, Tryz.ntmps52
      obtain ⟨b0, b1⟩ := bkA B0.one
      go_wp2_with fail
      generalize ((w.alloc (.cells #[.slice A S.length c, .slice A' V.length c'] 25)).alloc (.cells #[.slice none 0 0, .slice none 0 0] 25)) = W0 at *
      refine (CK.out W0 B0.below).mono ?_
      rintro e w1 ⟨hb1, rfl⟩
      have B1 := B0.next hb1
      clear b0 b1
      obtain ⟨d0, d1⟩ := bkA B1.two
      have f0 := B1.two.frozen 0
      have f1 := B1.two.frozen 1
      go_wp2
      refine bodyPost_ret (v := .tuple #[.agg #[.slice none 0 0, .slice none 0 0], .int .i64 _]) (by simp [results, Tryz.results52, go_sem, d0, d1]; rfl) rfl ?_
      exact ⟨(B1.below.setCell (p := ⟨w.heap.size + 1, 0, none⟩) (by simp) _).setCell (p := ⟨w.heap.size + 1, 1, none⟩) (by simp) _, _, rfl, IsA.zero _ _⟩
  obtain ⟨h2, h3, hn1⟩ : VA (S, V) ∧ AxOk (S, V) x red ∧ 1 ≤ n := by
    apply Classical.byContradiction
    intro h
    have := hbad.2 h
    cases this
  rw [windowR_ok h2 ⟨h3, hn1⟩]
  rw [show chkR (S, V) x red = 0 by unfold chkR; rw [if_pos h2, if_pos h3]] at CK
  obtain ⟨⟨hx0, hxS⟩, h4, h5⟩ := h3
  obtain ⟨y, rfl⟩ : ∃ y : Nat, x = (y : Int) := ⟨x.toNat, by omega⟩
  simp only [Int.toNat_natCast] at hxS ⊢
  have hyS : y < S.length := by omega
  have hVS : VS S := h2.1
  have hl : V.length = Ix.prod (S.map Int.toNat) := h2.2.1
  have hvv := h2.2.2
  have hS4 := hVS.1
  have hSm : (S.map Int.toNat).length = S.length := List.length_map _
  obtain ⟨N, hN⟩ : ∃ N, N = (S.map Int.toNat).getD y 0 := ⟨_, rfl⟩
  have hset : (S.map Int.toNat).set y N = S.map Int.toNat := by rw [hN]; exact set_self (by rw [hSm]; exact hyS)
  have hN1 : N ≤ 1024 := by
    have := (hVS.2.1 _ (List.getElem_mem hyS)).2
    rw [hN, getD_in (by rw [hSm]; exact hyS), List.getElem_map]; omega
  have hVL : V.length ≤ 4096 := by rw [hl]; exact hVS.2.2
  obtain ⟨f, hf⟩ : ∃ f, f = fun k => redT red (numsT (alV (S.map Int.toNat) V y (idx (S.map Int.toNat) k) (wnd n ((idx (S.map Int.toNat) k).getD y 0)))) := ⟨_, rfl⟩
  have htab : alongV (S.map Int.toNat) V y red N (wnd n) = (List.range V.length).map f := by
    unfold alongV
    rw [hset, hl, hf]; rfl
  rw [← hN]
  have HF := Lib.hid (fun k => show f k = redT red (numsT (alV (S.map Int.toNat) V y (idx (S.map Int.toNat) k) (wnd n ((idx (S.map Int.toNat) k).getD y 0)))) from by rw [hf])
  have HIY := Lib.hid (fun k (hk : k < V.length) => show (idx (S.map Int.toNat) k).getD y 0 < N from by
    have := ((inside_iff _ _).1 (idx_inside _ k (by rw [← hl]; exact hk))).2 y (by rw [hSm]; exact hyS)
    rwa [← hN] at this)
  have CP := Lib.hid (fun W (hW : Below w.heap.size w W) => copied_any A S.length c S W rfl (by omega) ((hS.rd.below hW).more hW.size))
  have IX := Lib.hid (fun W (hW : Below w.heap.size w W) (k : Nat) (hk : k < V.length) => rindex_any (S.map Int.toNat) k A c W hVS.sz (by rw [← hl]; exact hk) (by rw [← hVS.cells]; exact (hS.rd.below hW).more hW.size))
  rw [hSm] at IX
  have AL := Lib.hid (fun W (hW : Below w.heap.size w W) (k : Nat) (hk : k < V.length) X (hX : Bk W X 3 (ints .i64 (idx (S.map Int.toNat) k)).toArray) => show Calls Tryz.prog 108 #[.agg #[.slice A S.length c, .slice A' V.length c'], .int .i64 y, .slice (some ⟨X, 0, none⟩) S.length S.length] W fun e W' => Below W.heap.size W W' ∧ ∃ u, e = .returned u ∧ IsT W' W'.heap.size u (alV (S.map Int.toNat) V y (idx (S.map Int.toNat) k) (List.range N)) from by
    have hil : (idx (S.map Int.toNat) k).length = S.length := by rw [idx_len, hSm]
    refine ralong_any S V y N (idx (S.map Int.toNat) k) _ _ W (hha.next hW) ?_ hVS hl hyS hil hN (fun p hp => inside_set _ _ _ p N (by rw [hSm]; exact hyS) (by rw [hset]; exact idx_inside _ k (by rw [← hl]; exact hk)) (by rw [← hN]; exact hp))
    have e := IsI.of_bk (l := (idx (S.map Int.toNat) k).map Int.ofNat) (by rw [zints_nat]; exact hX)
    rwa [List.length_map, hil] at e)
  have hN3 : ∀ k, k < V.length → N ≤ 5000 := fun k hk => by
    have e1 := prod_erase_le (S.map Int.toNat) y (by rw [hSm]; exact hyS)
    rw [← hl, ← hN] at e1
    have e3 : 0 < Ix.prod ((S.map Int.toNat).eraseIdx y) := Nat.pos_of_ne_zero fun h => by rw [h, Nat.mul_zero] at e1; omega
    have e4 := Nat.le_mul_of_pos_right N e3
    omega
  have RD := Lib.hid (fun W (k : Nat) (hk : k < V.length) (i : Nat) u (hu : IsT W W.heap.size u (alV (S.map Int.toNat) V y (idx (S.map Int.toNat) k) (wnd n i))) (hi : i < N) => rreduction_any _ red u W hu (by rw [alV_len]; have := (wnd_pos (n := n) hi).2; have := hN3 k hk; omega) (fun s hs => (alV_val hvv s hs).2) (fun s hs => (alV_val hvv s hs).1) h4 h5)
  have HWN := Lib.hid (fun (k i : Nat) (hi : i < N) => alV_window (S.map Int.toNat) V y (idx (S.map Int.toNat) k) n hi)
  have hxS' : (y : Int) < (S.length : Int) := hxS
  have hx0' : (0 : Int) ≤ (y : Int) := by omega
  rw [htab]
  have HIL := Lib.hid (fun k => show (idx (S.map Int.toNat) k).length = S.length from by rw [idx_len, hSm])
  clear hS hT hi hha ha hN hset hVS h2 hyS hvv hl hSm hf htab hbad h4 h5 hxS hN3
  go_enter Tryz.func52, Tryz.ntmps52
  obtain ⟨b0, b1⟩ := bkA B0.one
  go_wp2_with fail
  generalize ((w.alloc (.cells #[.slice A S.length c, .slice A' V.length c'] 25)).alloc (.cells #[.slice none 0 0, .slice none 0 0] 25)) = W0 at *
  refine (CK.out W0 B0.below).mono ?_
  rintro e w1 ⟨hb1, rfl⟩
  have B1 := B0.next hb1
  clear b0 b1
  obtain ⟨b0, b1⟩ := bkA B1.one
  go_wp2_with fail
  refine (CP.out w1 B1.below).mono ?_
  rintro e w2 ⟨hb2, v9, rfl, hown⟩
  have B2 := B1.next hb2
  have hI := IsI.of_own hown
  obtain ⟨A9, c9, rfl, -⟩ := hI.form
  have hb3 := below_alloc w2 (.cells #[.slice A9 S.length c9, .slice none 0 0] 25)
  have B3 := B2.next hb3
  have l1 := B2.one.lt
  have l2 := B2.two.lt
  have M0 := AppAt.start (w := w) (ob := w2.heap.size) (ks := [(w.heap.size, 25, #[.slice A S.length c, .slice A' V.length c']), (w.heap.size + 1, 25, #[.slice none 0 0, .slice none 0 0])]) B3.below B3.keep (Bk.new w2 25 #[.slice A9 S.length c9, .slice none 0 0]) (hI.next hb3) B2.below.size (fun p hp => by
    simp at hp
    rcases hp with rfl | rfl
    · show w.heap.size ≠ w2.heap.size; simp only at l1; omega
    · show w.heap.size + 1 ≠ w2.heap.size; simp only at l2; omega)
  clear hown hI hb3 hb2 hb1 B0 B1 B2 B3 CK CP b0 b1 l1 l2
  go_wp2_with fail
  generalize w2.alloc (.cells #[.slice A9 S.length c9, .slice none 0 0] 25) = w4 at *
  generalize w2.heap.size = ob at *
  go_loopw [12] (fun i wr => ∃ (k : Nat) (x : Value), k ≤ V.length ∧ i = .int .i64 k ∧ AppAt w w4.heap.size ob [(w.heap.size, 25, #[.slice A S.length c, .slice A' V.length c']), (w.heap.size + 1, 25, #[.slice none 0 0, .slice none 0 0])] (.slice A9 S.length c9) S x ((List.range k).map f) wr) (fun i _ => V.length - (intOf i).toNat)
  case atStart => exact ⟨0, _, Nat.zero_le _, rfl, M0⟩
  case round =>
    clear M0
    obtain ⟨k, x, hk, rfl, M⟩ := hrel
    obtain ⟨xA, xc, rfl⟩ := own_formV M.own
    rw [map_len] at M
    have KA := M.keep (w.heap.size, 25, #[.slice A S.length c, .slice A' V.length c']) (by simp)
    obtain ⟨a0, a1⟩ := bkA KA
    by_cases hlt : k < V.length
    · have HFK := Lib.hid (HF.out k)
      have hiy := HIY.out k hlt
      have RDk := Lib.hid (fun W i u hu hi => RD.out W k hlt i u hu hi)
      have ALk := Lib.hid (fun W hW X hX => AL.out W hW k hlt X hX)
      have HWk := Lib.hid (fun i hi => HWN.out k i hi)
      have HILk := HIL.out k
      have IXk := Lib.hid (IX.out wr M.below k hlt)
      generalize idx (S.map Int.toNat) k = I at *
      clear RD AL HWN HIL IX HF HIY
      go_wp2_with fail
      refine IXk.out.mono ?_
      rintro e w5 ⟨hb5, rfl, hX5⟩
      have M5 := M.next hb5
      clear M KA a0 a1 IXk hb5
      generalize wr.heap.size = xb at *
      have KA := M5.keep (w.heap.size, 25, #[.slice A S.length c, .slice A' V.length c']) (by simp)
      obtain ⟨a0, a1⟩ := bkA KA
      go_wp2_with fail
      refine (ALk.out w5 M5.below xb hX5).mono ?_
      rintro e w6 ⟨hb6, u, rfl, hu⟩
      have M6 := M5.next hb6
      have hX6 := hX5.next' hb6
      clear M5 hX5 KA a0 a1 ALk hb6
      have hcy := hX6.cell y
      rw [ints_getD .i64 _ (by rw [HILk]; omega)] at hcy
      generalize hgi : I.getD y 0 = i at *
      obtain ⟨Au, cu, hue, hcu⟩ := hu.form
      rw [alV_len, List.length_range] at hue hcu
      subst hue
      obtain ⟨adu, rfl⟩ : ∃ ad, Au = some ad := by
        obtain ⟨ad, e1, _⟩ := hu.rd.str (j := 0) (by rw [alV_len, List.length_range]; omega)
        exact ⟨ad, e1⟩
      obtain ⟨lo, hlo⟩ : ∃ lo, lo = i + 1 - n.toNat := ⟨_, rfl⟩
      have hsub := hu.sub (a := lo) (m := i + 1 - lo) (by omega) (by omega)
      rw [hlo, HWk.out i hiy, ← hlo] at hsub
      have wa : IntKind.i64.wrap ((i : Int) + 1) = (i : Int) + 1 := IntWalk.i64_in _ (by omega)
      have wb : IntKind.i64.wrap ((i : Int) - min n ((i : Int) + 1)) = (i : Int) - min n ((i : Int) + 1) := IntWalk.i64_in _ (by omega)
      have wc : IntKind.i64.wrap ((i : Int) - min n ((i : Int) + 1) + 1) = (i : Int) - min n ((i : Int) + 1) + 1 := IntWalk.i64_in _ (by omega)
      have wd : max 0 ((i : Int) - min n ((i : Int) + 1) + 1) = (lo : Int) := by omega
      have q0 : (0 : Int) ≤ (lo : Int) := by omega
      have q1 : (lo : Int) ≤ (i : Int) + 1 := by omega
      have q2 : (i : Int) + 1 ≤ (cu : Int) := by omega
      have q3 : (0 : Int) ≤ (i : Int) + 1 := by omega
      have q4 : ¬ cu = lo := by omega
      have q5 : lo ≤ i + 1 := by omega
      clear hlo HWk hu
      obtain ⟨b0, b1⟩ := bkA M6.box
      go_wp2_with fail
      refine wp_region_M 19 (by kernel_rfl) (fun Y => Y.cell? ⟨ob, 0, none⟩ = some (.slice A9 S.length c9) ∧ Y.cell? ⟨ob, 1, none⟩ = some (.slice xA k xc)) ⟨b0, b1⟩ (fun hS0 => ?_)
      clear b0 b1
      have Md := M6.drew
      clear M6
      refine takeM (i := 0) (v := ?_) rfl (by kernel_rfl) (by decide) (by kernel_rfl) (by kernel_rfl) (by kernel_rfl) (fun _ _ _ h => h) (by rfl) (by assumption) ?_ ?_
      rotate_left
      · intro w hSw; (try dsimp only at hSw); go_simp <;> with_reducible rfl
      try simp only [Act.put, List.setIfInBounds_toArray, List.set_cons_zero, List.set_cons_succ]
      refine takeM (i := 1) (v := ?_) rfl (by kernel_rfl) (by decide) (by kernel_rfl) (by kernel_rfl) (by kernel_rfl) (fun _ _ _ h => h) (by rfl) (by assumption) ?_ ?_
      rotate_left
      · intro w hSw; (try dsimp only at hSw); go_simp <;> with_reducible rfl
      try simp only [Act.put, List.setIfInBounds_toArray, List.set_cons_zero, List.set_cons_succ]
      refine takeM (i := 2) (v := ?_) rfl (by kernel_rfl) (by decide) (by kernel_rfl) (by kernel_rfl) (by kernel_rfl) (fun _ _ _ h => h) (by rfl) (by assumption) ?_ ?_
      rotate_left
      · intro w hSw; (try dsimp only at hSw); go_simp <;> with_reducible rfl
      try simp only [Act.put, List.setIfInBounds_toArray, List.set_cons_zero, List.set_cons_succ]
      refine takeM (i := 3) (v := ?_) rfl (by kernel_rfl) (by decide) (by kernel_rfl) (by kernel_rfl) (by kernel_rfl) (fun _ _ _ h => h) (by rfl) (by assumption) ?_ ?_
      rotate_left
      · intro w hSw; (try dsimp only at hSw); go_simp <;> with_reducible rfl
      try simp only [Act.put, List.setIfInBounds_toArray, List.set_cons_zero, List.set_cons_succ]
      refine takeM (i := 4) (v := ?_) rfl (by kernel_rfl) (by decide) (by kernel_rfl) (by kernel_rfl) (by kernel_rfl) (fun _ _ _ h => h) (by rfl) (by assumption) ?_ ?_
      rotate_left
      · intro w hSw; (try dsimp only at hSw); go_simp <;> with_reducible rfl
      try simp only [Act.put, List.setIfInBounds_toArray, List.set_cons_zero, List.set_cons_succ]
      refine takeM (i := 5) (v := ?_) rfl (by kernel_rfl) (by decide) (by kernel_rfl) (by kernel_rfl) (by kernel_rfl) (fun _ _ _ h => h) (by rfl) (by assumption) ?_ ?_
      rotate_left
      · intro w hSw; (try dsimp only at hSw); go_simp <;> with_reducible rfl
      try simp only [Act.put, List.setIfInBounds_toArray, List.set_cons_zero, List.set_cons_succ]
      refine takeM (i := 6) (v := ?_) rfl (by kernel_rfl) (by decide) (by kernel_rfl) (by kernel_rfl) (by kernel_rfl) (fun _ _ _ h => h) (by rfl) (by assumption) ?_ ?_
      rotate_left
      · intro w hSw; (try dsimp only at hSw); go_simp <;> with_reducible rfl
      try simp only [Act.put, List.setIfInBounds_toArray, List.set_cons_zero, List.set_cons_succ]
      refine takeM (i := 7) (v := ?_) rfl (by kernel_rfl) (by decide) (by kernel_rfl) (by kernel_rfl) (by kernel_rfl) (fun _ _ _ h => h) (by rfl) (by assumption) ?_ ?_
      rotate_left
      · intro w hSw; (try dsimp only at hSw); go_simp <;> with_reducible rfl
      try simp only [Act.put, List.setIfInBounds_toArray, List.set_cons_zero, List.set_cons_succ]
      refine takeM (i := 8) (v := ?_) rfl (by kernel_rfl) (by decide) (by kernel_rfl) (by kernel_rfl) (by kernel_rfl) (fun _ _ _ h => h) (by rfl) (by assumption) ?_ ?_
      rotate_left
      · intro w hSw; (try dsimp only at hSw); go_simp <;> with_reducible rfl
      try simp only [Act.put, List.setIfInBounds_toArray, List.set_cons_zero, List.set_cons_succ]
      refine takeM (i := 9) (v := ?_) rfl (by kernel_rfl) (by decide) (by kernel_rfl) (by kernel_rfl) (by kernel_rfl) (fun _ _ _ h => h) (by rfl) (by assumption) ?_ ?_
      rotate_left
      · intro w hSw; (try dsimp only at hSw); go_simp <;> with_reducible rfl
      try simp only [Act.put, List.setIfInBounds_toArray, List.set_cons_zero, List.set_cons_succ]
      refine takeM (i := 10) (v := ?_) rfl (by kernel_rfl) (by decide) (by kernel_rfl) (by kernel_rfl) (by kernel_rfl) (fun _ _ _ h => h) (by rfl) (by assumption) ?_ ?_
      rotate_left
      · intro w hSw; (try dsimp only at hSw); go_simp <;> with_reducible rfl
      try simp only [Act.put, List.setIfInBounds_toArray, List.set_cons_zero, List.set_cons_succ]
      refine takeM (i := 11) (v := ?_) rfl (by kernel_rfl) (by decide) (by kernel_rfl) (by kernel_rfl) (by kernel_rfl) (fun _ _ _ h => h) (by rfl) (by assumption) ?_ ?_
      rotate_left
      · intro w hSw; (try dsimp only at hSw); go_simp <;> with_reducible rfl
      try simp only [Act.put, List.setIfInBounds_toArray, List.set_cons_zero, List.set_cons_succ]
      refine takeM (i := 12) (v := ?_) rfl (by kernel_rfl) (by decide) (by kernel_rfl) (by kernel_rfl) (by kernel_rfl) (fun _ _ _ h => h) (by rfl) (by assumption) ?_ ?_
      rotate_left
      · intro w hSw; (try dsimp only at hSw); go_simp <;> with_reducible rfl
      try simp only [Act.put, List.setIfInBounds_toArray, List.set_cons_zero, List.set_cons_succ]
      refine takeM (i := 13) (v := ?_) rfl (by kernel_rfl) (by decide) (by kernel_rfl) (by kernel_rfl) (by kernel_rfl) (fun _ _ _ h => h) (by rfl) (by assumption) ?_ ?_
      rotate_left
      · intro w hSw; (try dsimp only at hSw); go_simp <;> with_reducible rfl
      try simp only [Act.put, List.setIfInBounds_toArray, List.set_cons_zero, List.set_cons_succ]
      refine takeM (i := 14) (v := ?_) rfl (by kernel_rfl) (by decide) (by kernel_rfl) (by kernel_rfl) (by kernel_rfl) (fun _ _ _ h => h) (by rfl) (by assumption) ?_ ?_
      rotate_left
      · intro w hSw; (try dsimp only at hSw); go_simp <;> with_reducible rfl
      try simp only [Act.put, List.setIfInBounds_toArray, List.set_cons_zero, List.set_cons_succ]
      clear hS0
      refine stepM (i := 15) rfl (by kernel_rfl) (fun K0 hK0 => ?_)
      go_simp
      have RR := Lib.hid (RDk.out w6.drew i _ (show IsT w6.drew w6.drew.heap.size _ _ from hsub) hiy)
      refine RR.out.mono ?_
      rintro e w7 ⟨hb7, rfl⟩
      rw [← HFK.out]
      have M7 := Md.next hb7
      have hS7 := bkA M7.box
      dsimp only
      refine hK0.out _ _ (fun _ => hS7) (fun _ => ?_)
      clear hK0 K0 Md hb7 RR hsub RDk hS7
      try simp only [Act.put, List.setIfInBounds_toArray, List.set_cons_zero, List.set_cons_succ]
      generalize hfk : f k = tx at *
      have HFX := Lib.hid hfk
      clear hfk HFK
      have MA := M7.alloc (.cells #[.string tx] 9)
      have hS8 := bkA MA.box
      refine stepM (i := 16) rfl (by kernel_rfl) (fun K0 hK0 => ?_)
      go_simp
      refine hK0.out _ _ (fun _ => hS8) (fun _ => ?_)
      clear hK0 K0 hS8
      try simp only [Act.put, List.setIfInBounds_toArray, List.set_cons_zero, List.set_cons_succ]
      have hown0 := MA.own
      rw [map_len] at hown0
      refine stepM (i := 17) rfl (by kernel_rfl) (fun K0 hK0 => ?_)
      rw [if_pos (by rfl)]
      refine step_append_own (.tmp 54) (.tmp 69) 23 rfl w4.heap.size 9 i0 (.string ⟨#[]⟩) 1 16 Tryz.underlying23 hi0 hz0 hz1 hz2 rfl (by omega) (.slice xA k xc) k _ (by rfl) hown0 ⟨w7.heap.size, 0, none⟩ 1 1 [.string tx] (by rfl) (by rfl) (new_str w7 _ tx) (strs_one [tx]) (by unfold maxLen; omega) (by omega) MA.size ?_
      intro v1 w8 hown1 hg1
      obtain ⟨vA, vc, rfl⟩ := own_formV hown1
      have MM := MA.app (x := tx) (by rw [map_len]; exact hown1) hg1
      clear hown1 hg1 hown0 MA M7
      obtain ⟨g0, g1, gf⟩ := MM.facts
      have hS9 := And.intro g0 g1
      dsimp only
      refine hK0.out _ _ (fun _ => hS9) (fun _ => ?_)
      clear hK0 K0
      try simp only [Act.put, List.setIfInBounds_toArray, List.set_cons_zero, List.set_cons_succ]
      refine takeM (i := 18) (v := ?_) rfl (by kernel_rfl) (by decide) (by kernel_rfl) (by kernel_rfl) (by kernel_rfl) (fun _ _ _ h => h) (by rfl) (by assumption) ?_ ?_
      rotate_left
      · intro w hSw; (try dsimp only at hSw); go_simp <;> with_reducible rfl
      try simp only [Act.put, List.setIfInBounds_toArray, List.set_cons_zero, List.set_cons_succ]
      clear hS9
      refine stepM (i := 19) rfl (by kernel_rfl) (fun K0 hK0 => ?_)
      go_simp
      refine hK0.out _ _ (fun h => absurd rfl h) (fun _ => ?_)
      clear hK0 K0
      try simp only [Act.put, List.setIfInBounds_toArray, List.set_cons_zero, List.set_cons_succ]
      refine doneM (by kernel_rfl) ?_ _
      have MP := MM.put
      have e1 : (List.range k).map f ++ [tx] = (List.range (k + 1)).map f := by rw [map_snoc, HFX.out]
      rw [e1] at MP
      clear MM g0 g1 gf
      go_wp2
      go_roundw
      case rel => exact ⟨k + 1, _, by omega, by go_num, MP⟩
      case measure => simp [intOf]; omega
    · obtain rfl : k = V.length := by omega
      have KR := M.keep (w.heap.size + 1, 25, #[.slice none 0 0, .slice none 0 0]) (by simp)
      obtain ⟨b0, b1⟩ := bkA M.box
      obtain ⟨d0, d1⟩ := bkA KR
      have f0 := KR.frozen 0
      have f1 := KR.frozen 1
      have hA := M.isA
      have hb := M.below
      go_wp2
      refine bodyPost_ret (v := .tuple #[.agg #[.slice A9 S.length c9, .slice xA V.length xc], .int .i64 0]) (by simp [results, Tryz.results52, go_sem, d0, d1]) rfl ?_
      exact ⟨(hb.setCell (p := ⟨w.heap.size + 1, 0, none⟩) (by simp) _).setCell (p := ⟨w.heap.size + 1, 1, none⟩) (by simp) _, _, rfl, hA.ret d0 d1 _ _⟩
end Go.Proofs.YtgnffedncjjkfaaGreatDoor

namespace Go.Proofs.YtgnffedncjjkfaaGreatDoor
open Go.RowKit Ix Ar

/-- The numbers of slices.Delete in this program. -/
def delRen : Go.Shelf.Ren := ⟨fun | 23 => 110 | n => n, fun | 22 => 22 | 3 => 3 | 4 => 4 | 0 => 0 | n => n, fun | n => n⟩
theorem laysDel : Go.Proofs.Lays2.n23 Tryz.prog delRen := {
  mixed := by kernel_rfl
  f23 := Tryz.func110.trans (congrArg some (by kernel_rfl))
  t0 := Tryz.underlying0
  a0 := Tryz.isAgg0
  z0 := Tryz.sizeOf0
  v0 := Tryz.zeroValue0
  t3 := Tryz.underlying3
  a3 := Tryz.isAgg3
  z3 := Tryz.sizeOf3
  v3 := Tryz.zeroValue3
  t4 := Tryz.underlying4
  a4 := Tryz.isAgg4
  z4 := Tryz.sizeOf4
  v4 := Tryz.zeroValue4
  t22 := Tryz.underlying22
  a22 := Tryz.isAgg22
  z22 := Tryz.sizeOf22
  v22 := Tryz.zeroValue22
  i3 := by kernel_rfl }
theorem delete_any (S : List Int) (x B c : Nat) (A : Option Addr) (W : World) (h : W.ownsRow B 3 1 (.slice A S.length c) S.length (zints S)) (hx : x < S.length) :
    Calls Tryz.prog 110 #[.slice A S.length c, .int .i64 x, .int .i64 ((x : Int) + 1)] W fun e W' => ∃ g, A = some ⟨g, 0, none⟩ ∧ B ≤ g ∧ W.grownBy W' (some g) ∧ e = .returned (.slice A (S.length - 1) c) ∧ IsI W' W'.heap.size (.slice A (S.length - 1) c) (S.eraseIdx x) := by
  obtain ⟨h0, h1⟩ := h
  rcases h1 with ⟨e, -⟩ | ⟨g, cap, cur, e, hg, hh, h2, h3, h4, h5⟩
  · injection e with e1 e2 e3
    omega
  injection e with e1 e2 e3
  subst e1
  subst e3
  have kb : Bk W g 3 cur := hh
  have hcz : ∀ j, j < S.length → cur[j]? = some (.int .i64 (S.getD j 0)) := fun j hj => by
    have a1 : (zints S)[j]? = some (.int .i64 (S.getD j 0)) := by
      unfold zints
      rw [List.getElem?_map, List.getElem?_eq_getElem hj, List.getD_eq_getElem?_getD, List.getElem?_eq_getElem hj]; rfl
    rw [← h5, List.getElem?_take, if_pos (by omega)] at a1
    simpa using a1
  have D := Go.Proofs.Any.slices_Delete_int_cells laysDel g 0 S.length c x (x + 1) S W (Nat.le_refl _) h2 (by unfold maxLen at h3; omega) (by omega) (by omega) (fun j hj => by rw [Nat.zero_add, kb.cell j]; exact hcz j hj) (fun j _ => by rw [Nat.zero_add]; exact kb.frozen j)
  have ex : ((x + 1 : Nat) : Int) = (x : Int) + 1 := by omega
  rw [ex] at D
  refine D.mono ?_
  rintro e W' ⟨rfl, q, rfl⟩
  have e1 : S.length - (x + 1 - x) = S.length - 1 := by omega
  have e2 : (S.take S.length).take x ++ (S.take S.length).drop (x + 1) = S.eraseIdx x := by rw [List.take_length, List.eraseIdx_eq_take_drop_succ]
  have e3 := eraseIdx_len hx
  rw [e1, e2]
  have hcl : cur.toList.length = c := by rw [Array.length_toList, h4]; omega
  have hvl : ((S.eraseIdx x ++ List.replicate (x + 1 - x) 0).map (Value.int .i64)).length = S.length := by rw [List.length_map, List.length_append, List.length_replicate]; omega
  obtain ⟨hb, hgr⟩ := setCells_row g 3 ((S.eraseIdx x ++ List.replicate (x + 1 - x) 0).map (Value.int .i64)) 0 cur.toList (W.drewN q) (by rw [Array.toArray_toList]; exact hh) (by rw [hvl, hcl]; omega)
  refine ⟨g, rfl, hg, grown_trans (grown_drewN W q _) hgr, rfl, some ⟨g, 0, none⟩, c, ?_, by omega, ?_⟩
  · rw [show (S.eraseIdx x).length = S.length - 1 by omega]
  · have kb2 : Bk ((W.drewN q).setCells g 0 ((S.eraseIdx x ++ List.replicate (x + 1 - x) 0).map (Value.int .i64))) g 3 _ := hb
    have hr := kb2.rd.take (S.eraseIdx x).length
    have e4 : ((cur.toList.take 0 ++ ((S.eraseIdx x ++ List.replicate (x + 1 - x) 0).map (Value.int .i64) ++ cur.toList.drop (0 + ((S.eraseIdx x ++ List.replicate (x + 1 - x) 0).map (Value.int .i64)).length))).toArray.toList).take (S.eraseIdx x).length = zints (S.eraseIdx x) := by
      rw [List.take_zero, List.nil_append, List.map_append, List.append_assoc, List.take_append_of_le_length (by rw [List.length_map]; exact Nat.le_refl _), List.take_of_length_le (by rw [List.length_map]; exact Nat.le_refl _)]
      rfl
    rw [e4] at hr
    exact hr

theorem IsA.put1 {w : World} {v : Value} {a : Arr} (h : IsA w w.heap.size v a) {p : Addr} {A : Option Addr} {n c : Nat} (h0 : w.cell? p = some (.slice A n c)) (x : Value) : IsA (w.setCell p x) (w.setCell p x).heap.size v a := by
  rw [sz_setCell]
  obtain ⟨s, t, e, ⟨A1, c1, e1, l1, r1⟩, ⟨A2, c2, e2, l2, r2⟩⟩ := h
  exact ⟨s, t, e, ⟨A1, c1, e1, l1, r1.put_out h0 (slice_out _ _ _ _) x⟩, ⟨A2, c2, e2, l2, r2.put_out h0 (by simp [strs]) x⟩⟩
theorem along_reduce {S : List Int} {V : List ByteArray} {y : Nat} {red : Int} (pos : Nat → List Nat) (hS : VS S) (hy : y < S.length) :
    (VS (S.eraseIdx y) → alongR (S, V) y red 1 pos = ((S.set y 1, alongV (S.map Int.toNat) V y red 1 pos), 0)) ∧ (¬ VS (S.eraseIdx y) → alongR (S, V) y red 1 pos = (([], []), 60)) := by
  have h := VS_set1 hS hy
  unfold alongR
  constructor
  · intro k
    rw [if_pos (by show VS (S.set ((y : Int)).toNat 1); rw [Int.toNat_natCast]; exact h.2 k)]
    rfl
  · intro k
    rw [if_neg (by show ¬ VS (S.set ((y : Int)).toNat 1); rw [Int.toNat_natCast]; exact fun h' => k (h.1 h'))]

set_option maxRecDepth 100000 in
set_option maxHeartbeats 3200000 in
theorem preduce_any (a : Arr) (x red : Int) (va : Value) (w : World) (ha : IsA w w.heap.size va a) (hi : InA a) (he : Env w) (her : EnvR w) (hV2 : a.2.length ≤ 5000) :
    Calls Tryz.prog 53 #[va, .int .i64 x, .int .i64 red] w fun e w' => Below w.heap.size w w' ∧ ∃ u, e = .returned (.tuple #[u, .int .i64 (reduceR a x red).2]) ∧ IsA w' w'.heap.size u (reduceR a x red).1 := by
  obtain ⟨A, c, A', c', rfl, hc, hc'⟩ := ha.form
  have hha := ha
  obtain ⟨hS, hT⟩ := ha.parts
  obtain ⟨S, V⟩ := a
  simp only at hS hT hc hc' hV2
  have CK := Lib.hid (fun W (hW : Below w.heap.size w W) => checked_any (S, V) x red _ W (hha.next hW) hi (he.next hW))
  have B0 := BxW.start2 w 25 25 #[.slice A S.length c, .slice A' V.length c'] #[.slice none 0 0, .slice none 0 0]
  rcases chkR_or (S, V) x red with ⟨h1, h2⟩ | ⟨h1, h2, h3⟩ | ⟨h1, h2, h3⟩
  · skip
    rw [reduceR_bad h2]
    rw [h1] at CK
    clear hS hT hi he her hha ha
    go_enter Tryz.func53, Tryz.ntmps53
    obtain ⟨b0, b1⟩ := bkA B0.one
    go_wp2_with fail
    generalize ((w.alloc (.cells #[.slice A S.length c, .slice A' V.length c'] 25)).alloc (.cells #[.slice none 0 0, .slice none 0 0] 25)) = W0 at *
    refine (CK.out W0 B0.below).mono ?_
    rintro e w1 ⟨hb1, rfl⟩
    have B1 := B0.next hb1
    clear b0 b1
    obtain ⟨d0, d1⟩ := bkA B1.two
    have f0 := B1.two.frozen 0
    have f1 := B1.two.frozen 1
    go_wp2
    refine bodyPost_ret (v := .tuple #[.agg #[.slice none 0 0, .slice none 0 0], .int .i64 60]) (by simp [results, Tryz.results53, go_sem, d0, d1]) rfl ?_
    exact ⟨(B1.below.setCell (p := ⟨w.heap.size + 1, 0, none⟩) (by simp) _).setCell (p := ⟨w.heap.size + 1, 1, none⟩) (by simp) _, _, rfl, IsA.zero _ _⟩
  · skip
    rw [reduceR_arg h2 h3]
    rw [h1] at CK
    clear hS hT hi he her hha ha
    go_enter Tryz.func53, Tryz.ntmps53
    obtain ⟨b0, b1⟩ := bkA B0.one
    go_wp2_with fail
    generalize ((w.alloc (.cells #[.slice A S.length c, .slice A' V.length c'] 25)).alloc (.cells #[.slice none 0 0, .slice none 0 0] 25)) = W0 at *
    refine (CK.out W0 B0.below).mono ?_
    rintro e w1 ⟨hb1, rfl⟩
    have B1 := B0.next hb1
    clear b0 b1
    obtain ⟨d0, d1⟩ := bkA B1.two
    have f0 := B1.two.frozen 0
    have f1 := B1.two.frozen 1
    go_wp2
    refine bodyPost_ret (v := .tuple #[.agg #[.slice none 0 0, .slice none 0 0], .int .i64 2]) (by simp [results, Tryz.results53, go_sem, d0, d1]) rfl ?_
    exact ⟨(B1.below.setCell (p := ⟨w.heap.size + 1, 0, none⟩) (by simp) _).setCell (p := ⟨w.heap.size + 1, 1, none⟩) (by simp) _, _, rfl, IsA.zero _ _⟩
  rw [h1] at CK
  have hRok := reduceR_ok h2 h3
  have hRbad := reduceR_shape h2 h3
  obtain ⟨⟨hx0, hxS⟩, h4, h5⟩ := h3
  obtain ⟨y, rfl⟩ : ∃ y : Nat, x = (y : Int) := ⟨x.toNat, by omega⟩
  simp only [Int.toNat_natCast] at hxS hRok hRbad
  have hyS : y < S.length := by omega
  have hVS : VS S := h2.1
  have hS4 := hVS.1
  have hSm : (S.map Int.toNat).length = S.length := List.length_map _
  obtain ⟨N, hN⟩ : ∃ N, N = (S.map Int.toNat).getD y 0 := ⟨_, rfl⟩
  rw [← hN] at hRok
  have hSy : S[y] = (N : Int) := by
    have h0 := (hVS.2.1 _ (List.getElem_mem hyS)).1
    rw [hN, getD_in (by rw [hSm]; exact hyS), List.getElem_map, Int.toNat_of_nonneg h0]
  have hN1 : N ≤ 1024 := by have := (hVS.2.1 _ (List.getElem_mem hyS)).2; omega
  have HS1 := Lib.hid (fun W (hW : Below w.heap.size w W) => show ∃ ad, A = some ad ∧ W.cell? (ad.add y) = some (.int .i64 (N : Int)) from by
    obtain ⟨ad, e1, e2, e3⟩ := (hS.rd.below hW).zint hyS
    exact ⟨ad, e1, by rw [e3, hSy]⟩)
  have SP := Lib.hid (fun W => show Calls Tryz.prog 106 #[.int .i64 0, .int .i64 (N : Int)] W fun e w' => Below W.heap.size W w' ∧ ∃ u, e = .returned u ∧ IsI w' w'.heap.size u ((List.range N).map Int.ofNat) from by
    have := span_any 0 N W (by omega)
    rw [Nat.sub_zero, ← List.range_eq_range'] at this
    exact this)
  have AL := Lib.hid (fun W (hW : Below w.heap.size w W) (b cu : Nat) (Au : Option Addr) (hb : W.cell? ⟨b, 0, none⟩ = some (.slice Au N cu)) (hu : IsI W W.heap.size (.slice Au N cu) ((List.range N).map Int.ofNat)) => along_any (S, V) y red 1 _ 109 #[.pointer (some ⟨b, 0, none⟩)] (enters_of Tryz.func109 (by kernel_rfl) rfl) (fun _ => List.range N) W (hha.next hW) (he.next hW) (her.next hW) h2 hyS h4 h5 hV2 (by omega)
    (fun k _ => ⟨fun p hp => by rw [← hN]; exact List.mem_range.1 hp, by rw [List.length_range, ← hN]; exact Nat.le_refl _⟩) (fun k W2 _ hW2 => (reduce1_any k b N cu Au W2 ((hW2.cell (p := ⟨b, 0, none⟩) (World.block_lt_of_cell? _ _ hb)).trans hb)).mono (fun e w' ⟨q1, q2⟩ => by
      subst q1
      exact ⟨Below.refl _ _, _, q2, hu.next hW2⟩)))
  obtain ⟨hal1, hal2⟩ := along_reduce (V := V) (red := red) (fun _ => List.range N) hVS hyS
  have hxS' : (y : Int) < (S.length : Int) := hxS
  have hx0' : (0 : Int) ≤ (y : Int) := by omega
  have HRok := Lib.hid hRok
  have HRbad := Lib.hid hRbad
  clear hS hT hi he her hha ha hN hSy h2 hVS hSm h4 h5 hRok hRbad
  generalize reduceR (S, V) (y : Int) red = R at *
  obtain ⟨Ra, Re⟩ := R
  go_enter Tryz.func53, Tryz.ntmps53
  obtain ⟨b0, b1⟩ := bkA B0.one
  go_wp2_with fail
  generalize ((w.alloc (.cells #[.slice A S.length c, .slice A' V.length c'] 25)).alloc (.cells #[.slice none 0 0, .slice none 0 0] 25)) = W0 at *
  refine (CK.out W0 B0.below).mono ?_
  rintro e w1 ⟨hb1, rfl⟩
  have B1 := B0.next hb1
  clear b0 b1 CK B0 hb1
  obtain ⟨b0, b1⟩ := bkA B1.one
  obtain ⟨ad, rfl, hcy⟩ := HS1.out w1 B1.below
  go_wp2_with fail
  refine (SP.out w1).mono ?_
  rintro e w2 ⟨hb2, u, rfl, hu⟩
  have B2 := B1.next hb2
  obtain ⟨Au, cu, hue, -⟩ := hu.form
  rw [List.length_map, List.length_range] at hue
  subst hue
  have hb3 := below_alloc w2 (.cells #[.slice Au N cu] 22)
  have B3 := B2.next hb3
  have k3 := Bk.new w2 22 #[Value.slice Au N cu]
  have hu3 := hu.next hb3
  have AL3 := Lib.hid (AL.out _ B3.below w2.heap.size cu Au (k3.cell 0) hu3)
  clear b0 b1 hcy B1 B2 hb2 hu hu3 k3 hb3 AL SP HS1
  obtain ⟨b0, b1⟩ := bkA B3.one
  go_wp2_with fail
  generalize w2.alloc (.cells #[.slice Au N cu] 22) = w3 at *
  refine AL3.out.mono ?_
  rintro e w4 ⟨hb4, t, rfl, ht, hown⟩
  have B4 := B3.next hb4
  have l3 := B3.two.lt
  have z4 := hb4.size
  clear AL3 b0 b1 B3 hb4
  by_cases hvs : VS (S.eraseIdx y)
  rotate_left
  · rw [hal2 hvs] at ht ⊢
    have hR := HRbad.out hvs
    injection hR with e1 e2
    subst e1
    subst e2
    simp only at ht ⊢
    obtain ⟨A1, c1, A2, c2, rfl, -, -⟩ := ht.form
    have B5 := B4.next (below_alloc w4 (.cells #[.slice A1 0 c1, .slice A2 0 c2] 25))
    obtain ⟨d0, d1⟩ := bkA B5.two
    have f0 := B5.two.frozen 0
    have f1 := B5.two.frozen 1
    clear hal1 hal2 HRok HRbad hown ht B4
    go_wp2
    refine bodyPost_ret (v := .tuple #[.agg #[.slice none 0 0, .slice none 0 0], .int .i64 60]) (by simp [results, Tryz.results53, go_sem, d0, d1]) rfl ?_
    exact ⟨(B5.below.setCell (p := ⟨w.heap.size + 1, 0, none⟩) (by simp) _).setCell (p := ⟨w.heap.size + 1, 1, none⟩) (by simp) _, _, rfl, IsA.zero _ _⟩
  rw [hal1 hvs] at ht hown ⊢
  have hR := HRok.out hvs
  injection hR with e1 e2
  subst e2
  have HRA := Lib.hid e1
  clear e1
  simp only at ht hown ⊢
  obtain ⟨A1, c1, g2, M0, rfl, hM0, hk2, hg2, ho, hne⟩ := hown rfl
  simp only at ho hk2 hM0 hne
  generalize alongV (S.map Int.toNat) V y red 1 (fun _ => List.range N) = M at *
  subst hM0
  rw [List.length_set] at ho hne ⊢
  have hb5 := below_alloc w4 (.cells #[.slice A1 S.length c1, .slice (some ⟨g2, 0, none⟩) M.length M.length] 25)
  have B5 := B4.next hb5
  have ko := Bk.new w4 25 #[Value.slice A1 S.length c1, .slice (some ⟨g2, 0, none⟩) M.length M.length]
  have hk5 := hk2.next' hb5
  have ho5 := ho.kept (grown_of_below hb5 none) (by cases (Value.slice A1 S.length c1).ownBlock with | none => exact .inl rfl | some g => exact .inr (by simp))
  have hlt5 := ho.lt
  have DL := Lib.hid (delete_any (S.set y 1) y w3.heap.size c1 A1 _ (by rw [List.length_set]; exact ho5) (by rw [List.length_set]; exact hyS))
  rw [List.length_set, List.eraseIdx_set_eq] at DL
  have lk2 := hk2.lt
  obtain ⟨o0, o1⟩ := bkA ko
  have hEL := eraseIdx_len hyS
  clear ho ho5 hal1 hal2 HRok HRbad hown ht hk2 hb5 B4
  go_wp2_with fail
  generalize w4.alloc (.cells #[.slice A1 S.length c1, .slice (some ⟨g2, 0, none⟩) M.length M.length] 25) = w5 at *
  generalize w4.heap.size = ob at *
  refine DL.out.mono ?_
  rintro e w6 ⟨g, rfl, hgB, hgr, rfl, hI6⟩
  have hgo : g < ob := (hlt5 g rfl).2
  have hgn : g2 ≠ g := fun e => hne (by rw [e]; rfl)
  have l3 : w.heap.size + 1 < w3.heap.size := l3
  have hB6 := B5.below.grown hgr B5.below.size (fun r e => by cases e; omega)
  have ka6 := B5.one.grown hgr (by intro e; injection e with e; simp only at e; omega)
  have kr6 := B5.two.grown hgr (by intro e; injection e with e; simp only at e; omega)
  have ko6 := ko.grown hgr (by intro e; injection e with e; omega)
  have hk6 := hk5.grown hgr (by intro e; injection e with e; exact hgn e)
  obtain ⟨o0', o1'⟩ := bkA ko6
  have of0 := ko6.frozen 0
  have hA6 : IsA w6 w6.heap.size (.agg #[.slice (some ⟨g, 0, none⟩) (S.length - 1) c1, .slice (some ⟨g2, 0, none⟩) M.length M.length]) (S.eraseIdx y, M) := ⟨_, _, rfl, hI6, IsT.of_bk hk6⟩
  have hA7 := hA6.put1 o0' (.slice (some ⟨g, 0, none⟩) (S.length - 1) c1)
  have ko7 := ko6.put 0 (.slice (some ⟨g, 0, none⟩) (S.length - 1) c1)
  have kr7 := kr6.far (p := ⟨ob, 0, none⟩) (by have := B5.two.lt; simp only at this ⊢; omega) (.slice (some ⟨g, 0, none⟩) (S.length - 1) c1)
  have hB7 := hB6.setCell (p := ⟨ob, 0, none⟩) (by simp only; omega) (.slice (some ⟨g, 0, none⟩) (S.length - 1) c1)
  obtain ⟨p0, p1⟩ := bkA (show Bk _ ob 25 #[Value.slice (some ⟨g, 0, none⟩) (S.length - 1) c1, .slice (some ⟨g2, 0, none⟩) M.length M.length] from by simpa using ko7)
  obtain ⟨d0, d1⟩ := bkA kr7
  have f0 := kr7.frozen 0
  have f1 := kr7.frozen 1
  have hA8 := hA7.ret d0 d1 (.slice (some ⟨g, 0, none⟩) (S.length - 1) c1) (.slice (some ⟨g2, 0, none⟩) M.length M.length)
  have hB8 := (hB7.setCell (p := ⟨w.heap.size + 1, 0, none⟩) (by simp) (.slice (some ⟨g, 0, none⟩) (S.length - 1) c1)).setCell (p := ⟨w.heap.size + 1, 1, none⟩) (by simp) (.slice (some ⟨g2, 0, none⟩) M.length M.length)
  have kr8 := (kr7.put 0 (.slice (some ⟨g, 0, none⟩) (S.length - 1) c1)).put 1 (.slice (some ⟨g2, 0, none⟩) M.length M.length)
  obtain ⟨r0, r1⟩ := bkA (show Bk _ (w.heap.size + 1) 25 #[Value.slice (some ⟨g, 0, none⟩) (S.length - 1) c1, .slice (some ⟨g2, 0, none⟩) M.length M.length] from by simpa using kr8)
  clear hk5 ko B5 DL o0 o1 hgr hI6 ka6 kr6 ko6 hk6 hA6 hA7 ko7 hB6 hB7 kr7 kr8
  go_wp2
  refine bodyPost_ret (v := .tuple #[.agg #[.slice (some ⟨g, 0, none⟩) (S.length - 1) c1, .slice (some ⟨g2, 0, none⟩) M.length M.length], .int .i64 0]) (by simp [results, Tryz.results53, go_sem, r0, r1]) rfl ?_
  exact ⟨hB8, _, rfl, by rw [HRA.out]; exact hA8⟩
end Go.Proofs.YtgnffedncjjkfaaGreatDoor

namespace Go.Proofs.YtgnffedncjjkfaaGreatDoor
open Go.RowKit Ix Ar

set_option maxRecDepth 100000 in
set_option maxHeartbeats 1600000 in
theorem rwithout_any (S : List Int) (x c : Nat) (A : Option Addr) (w : World) (hI : IsI w w.heap.size (.slice A S.length c) S) (hx : x < S.length) (hl : S.length ≤ 10) :
    Calls Tryz.prog 111 #[.slice A S.length c, .int .i64 x] w fun e w' => Below w.heap.size w w' ∧ ∃ u, e = .returned u ∧ w'.ownsRow w.heap.size 3 1 u (S.length - 1) (zints (S.eraseIdx x)) := by
  obtain ⟨i0, hi0, hz0, hz1, hz2⟩ := info_parts Tryz.int_info
  obtain ⟨ad, rfl, hab, _⟩ := hI.rd.zint hx
  have hc : S.length ≤ c := by
    obtain ⟨A1, c1, e, h1, _⟩ := hI
    injection e with e1 e2 e3
    omega
  have CP := Lib.hid (fun W (hW : Below w.heap.size w W) => copied_any (some ad) x c (S.take x) W (by rw [List.length_take]; omega) (by omega) (by
    have := ((hI.rd.below hW).more hW.size).take x
    rwa [show (zints S).take x = zints (S.take x) by simp [zints, List.map_take]] at this))
  obtain ⟨p, hp, HR⟩ : ∃ p : Addr, (if c = x + 1 then some ad else some (⟨ad.block, ad.off + (x + 1), none⟩ : Addr)) = some p ∧ Hid (∀ W, Below w.heap.size w W → ∀ j u, (zints (S.drop (x + 1)))[j]? = some u → W.cell? (p.add j) = some u) := by
    refine ⟨if c = x + 1 then ad else ad.add (x + 1), by split <;> rfl, fun W hW j u hu => ?_⟩
    have h1 := (hI.rd.below hW).cut (k := x + 1) (cap := c) (by rw [zints_len]; exact hc)
    rw [show (zints S).drop (x + 1) = zints (S.drop (x + 1)) by simp [zints, List.map_drop]] at h1
    obtain ⟨ad2, e1, _, e3⟩ := h1 (fun h0 => by rw [h0] at hu; simp at hu)
    split at e1
    · rename_i h0
      rw [if_pos h0]
      injection e1 with e1
      subst e1
      exact e3 j u hu
    · rename_i h0
      rw [if_neg h0]
      injection e1 with e1
      subst e1
      exact e3 j u hu
  have HE : Hid (zints (S.take x) ++ zints (S.drop (x + 1)) = zints (S.eraseIdx x)) := by show _ = _; rw [← zints_app, List.eraseIdx_eq_take_drop_succ]
  have hdl : (S.drop (x + 1)).length = S.length - (x + 1) := List.length_drop
  have HDL := Lib.hid hdl
  have q0 : (0 : Int) ≤ (x : Int) := by omega
  have q1 : (x : Int) ≤ (c : Int) := by omega
  have q2 : (x : Int) + 1 ≤ (S.length : Int) := by omega
  have q3 : (0 : Int) ≤ (x : Int) + 1 := by omega
  have q4 : (S.length : Int) ≤ (c : Int) := by omega
  have wa : IntKind.i64.wrap ((x : Int) + 1) = (x : Int) + 1 := IntWalk.i64_in _ (by omega)
  have hx1 : x + 1 ≤ S.length := by omega
  clear hI hdl hab
  have hB0 : Below w.heap.size w w.drew := (Below.refl _ _).drew
  have HP := Lib.hid hp
  clear hp
  go_enter Tryz.func111, Tryz.ntmps111
  go_wp2_with fail
  refine wp_region_M 9 (by kernel_rfl) (fun _ => True) trivial (fun hS0 => ?_)
  generalize w.drew = wd at *
  refine takeM (i := 0) (v := ?_) rfl (by kernel_rfl) (by decide) (by kernel_rfl) (by kernel_rfl) (by kernel_rfl) (fun _ _ _ h => h) (by rfl) (by assumption) ?_ ?_
  rotate_left
  · intro w hSw; (try dsimp only at hSw); go_simp <;> with_reducible rfl
  try simp only [Act.put, List.setIfInBounds_toArray, List.set_cons_zero, List.set_cons_succ]
  refine takeM (i := 1) (v := ?_) rfl (by kernel_rfl) (by decide) (by kernel_rfl) (by kernel_rfl) (by kernel_rfl) (fun _ _ _ h => h) (by rfl) (by assumption) ?_ ?_
  rotate_left
  · intro w hSw; (try dsimp only at hSw); go_simp <;> with_reducible rfl
  try simp only [Act.put, List.setIfInBounds_toArray, List.set_cons_zero, List.set_cons_succ]
  refine takeM (i := 2) (v := ?_) rfl (by kernel_rfl) (by decide) (by kernel_rfl) (by kernel_rfl) (by kernel_rfl) (fun _ _ _ h => h) (by rfl) (by assumption) ?_ ?_
  rotate_left
  · intro w hSw; (try dsimp only at hSw); go_simp <;> with_reducible rfl
  try simp only [Act.put, List.setIfInBounds_toArray, List.set_cons_zero, List.set_cons_succ]
  refine takeM (i := 4) (v := ?_) rfl (by kernel_rfl) (by decide) (by kernel_rfl) (by kernel_rfl) (by kernel_rfl) (fun _ _ _ h => h) (by rfl) (by assumption) ?_ ?_
  rotate_left
  · intro w hSw; (try dsimp only at hSw); go_simp <;> with_reducible rfl
  try simp only [Act.put, List.setIfInBounds_toArray, List.set_cons_zero, List.set_cons_succ]
  refine takeM (i := 5) (v := ?_) rfl (by kernel_rfl) (by decide) (by kernel_rfl) (by kernel_rfl) (by kernel_rfl) (fun _ _ _ h => h) (by rfl) (by assumption) ?_ ?_
  rotate_left
  · intro w hSw; (try dsimp only at hSw); go_simp <;> with_reducible rfl
  try simp only [Act.put, List.setIfInBounds_toArray, List.set_cons_zero, List.set_cons_succ]
  refine takeM (i := 6) (v := ?_) rfl (by kernel_rfl) (by decide) (by kernel_rfl) (by kernel_rfl) (by kernel_rfl) (fun _ _ _ h => h) (by rfl) (by assumption) ?_ ?_
  rotate_left
  · intro w hSw; (try dsimp only at hSw); go_simp <;> with_reducible rfl
  try simp only [Act.put, List.setIfInBounds_toArray, List.set_cons_zero, List.set_cons_succ]
  refine takeM (i := 7) (v := ?_) rfl (by kernel_rfl) (by decide) (by kernel_rfl) (by kernel_rfl) (by kernel_rfl) (fun _ _ _ h => h) (by rfl) (by assumption) ?_ ?_
  rotate_left
  · intro w hSw; (try dsimp only at hSw); go_simp <;> with_reducible rfl
  try simp only [Act.put, List.setIfInBounds_toArray, List.set_cons_zero, List.set_cons_succ]
  have CP2 := Lib.hid (CP.out wd hB0)
  refine stepM (i := 3) rfl (by kernel_rfl) (fun K0 hK0 => ?_)
  go_simp
  refine CP2.out.mono ?_
  rintro e w3 ⟨hb3, v, rfl, hown⟩
  have hB3 := hB0.trans (hb3.mono hB0.size)
  have hown' := Go.Joins.ownsRow_le hown hB0.size
  have hz3 := hB3.size
  obtain ⟨vA, vc, rfl⟩ := own_formV hown
  dsimp only
  refine hK0.out _ _ (fun _ => trivial) (fun _ => ?_)
  clear hK0 K0 CP CP2 hown hb3
  try simp only [Act.put, List.setIfInBounds_toArray, List.set_cons_zero, List.set_cons_succ]
  rw [HP.out]
  refine stepM (i := 8) rfl (by kernel_rfl) (fun K0 hK0 => ?_)
  (try rw [if_pos (by rfl)])
  refine step_append_own (.tmp 8) (.tmp 12) 22 rfl w.heap.size 3 i0 (.int .i64 0) 1 8 Tryz.underlying22 hi0 hz0 hz1 hz2 rfl (by omega) (.slice vA x vc) x _ (by rfl) hown' _ (S.length - (x + 1)) (c - (x + 1)) (zints (S.drop (x + 1))) (by rfl) (by rw [zints_len, HDL.out, Nat.mul_one]) (HR.out w3 hB3) (zints_one _) (by unfold maxLen; omega) (by omega) hz3 ?_
  intro v1 w4 hown1 hg1
  have hB4 := below_app hB3 hg1 hz3 hown' (Nat.le_refl _)
  rw [HE.out, show x + (S.length - (x + 1)) = S.length - 1 by omega] at hown1
  dsimp only
  refine hK0.out _ _ (fun _ => trivial) (fun _ => ?_)
  clear hK0 K0 hg1 hown' hB3
  try simp only [Act.put, List.setIfInBounds_toArray, List.set_cons_zero, List.set_cons_succ]
  refine stepM (i := 9) rfl (by kernel_rfl) (fun K0 hK0 => ?_)
  go_simp
  refine hK0.out _ _ (fun h => absurd rfl h) (fun _ => ?_)
  clear hK0 K0
  try simp only [Act.put, List.setIfInBounds_toArray, List.set_cons_zero, List.set_cons_succ]
  refine doneM (by kernel_rfl) ?_ _
  have HO := Lib.hid hown1
  clear hown1
  go_wp2
  go_ret
  exact ⟨hB4, _, rfl, HO.out⟩

theorem ins_split : ∀ (J : List Nat) (x a : Nat), x ≤ J.length → J.insertIdx x a = J.take x ++ a :: J.drop x
  | J, 0, a, _ => by simp
  | [], x + 1, a, h => by simp at h
  | j :: J, x + 1, a, h => by
    show j :: J.insertIdx x a = j :: (J.take x ++ a :: J.drop x)
    rw [ins_split J x a (by simpa using h)]
set_option maxRecDepth 100000 in
set_option maxHeartbeats 6400000 in
theorem rreduce_any (a : Arr) (x red : Int) (va : Value) (w : World) (ha : IsA w w.heap.size va a) (hi : InA a) (hV2 : a.2.length ≤ 5000) :
    Calls Tryz.prog 54 #[va, .int .i64 x, .int .i64 red] w fun e w' => Below w.heap.size w w' ∧ ∃ u, e = .returned (.tuple #[u, .int .i64 (reduceR a x red).2]) ∧ IsA w' w'.heap.size u (reduceR a x red).1 := by
  obtain ⟨A, c, A', c', rfl, hc, hc'⟩ := ha.form
  obtain ⟨i0, hi0, hz0, hz1, hz2⟩ := info_parts Tryz.str_info
  obtain ⟨i1, hi1, hy0, hy1, hy2⟩ := info_parts Tryz.int_info
  have hha := ha
  obtain ⟨hS, hT⟩ := ha.parts
  obtain ⟨S, V⟩ := a
  simp only at hS hT hc hc' hV2
  have CK := Lib.hid (fun W (hW : Below w.heap.size w W) => raxial_any (S, V) x red _ W (hha.next hW) hi)
  have B0 := BxW.start2 w 25 25 #[.slice A S.length c, .slice A' V.length c'] #[.slice none 0 0, .slice none 0 0]
  rcases chkR_or (S, V) x red with ⟨h1, h2⟩ | ⟨h1, h2, h3⟩ | ⟨h1, h2, h3⟩
  · skip
    rw [reduceR_bad h2]
    rw [h1] at CK
    clear hS hT hi hha ha
    go_enter Tryz.func54, Tryz.ntmps54
    obtain ⟨b0, b1⟩ := bkA B0.one
    go_wp2_with fail
    generalize ((w.alloc (.cells #[.slice A S.length c, .slice A' V.length c'] 25)).alloc (.cells #[.slice none 0 0, .slice none 0 0] 25)) = W0 at *
    refine (CK.out W0 B0.below).mono ?_
    rintro e w1 ⟨hb1, rfl⟩
    have B1 := B0.next hb1
    clear b0 b1
    obtain ⟨d0, d1⟩ := bkA B1.two
    have f0 := B1.two.frozen 0
    have f1 := B1.two.frozen 1
    go_wp2
    refine bodyPost_ret (v := .tuple #[.agg #[.slice none 0 0, .slice none 0 0], .int .i64 60]) (by simp [results, Tryz.results54, go_sem, d0, d1]) rfl ?_
    exact ⟨(B1.below.setCell (p := ⟨w.heap.size + 1, 0, none⟩) (by simp) _).setCell (p := ⟨w.heap.size + 1, 1, none⟩) (by simp) _, _, rfl, IsA.zero _ _⟩
  · skip
    rw [reduceR_arg h2 h3]
    rw [h1] at CK
    clear hS hT hi hha ha
    go_enter Tryz.func54, Tryz.ntmps54
    obtain ⟨b0, b1⟩ := bkA B0.one
    go_wp2_with fail
    generalize ((w.alloc (.cells #[.slice A S.length c, .slice A' V.length c'] 25)).alloc (.cells #[.slice none 0 0, .slice none 0 0] 25)) = W0 at *
    refine (CK.out W0 B0.below).mono ?_
    rintro e w1 ⟨hb1, rfl⟩
    have B1 := B0.next hb1
    clear b0 b1
    obtain ⟨d0, d1⟩ := bkA B1.two
    have f0 := B1.two.frozen 0
    have f1 := B1.two.frozen 1
    go_wp2
    refine bodyPost_ret (v := .tuple #[.agg #[.slice none 0 0, .slice none 0 0], .int .i64 2]) (by simp [results, Tryz.results54, go_sem, d0, d1]) rfl ?_
    exact ⟨(B1.below.setCell (p := ⟨w.heap.size + 1, 0, none⟩) (by simp) _).setCell (p := ⟨w.heap.size + 1, 1, none⟩) (by simp) _, _, rfl, IsA.zero _ _⟩
  rw [h1] at CK
  have hRok := reduceR_ok h2 h3
  have hRbad := reduceR_shape h2 h3
  obtain ⟨⟨hx0, hxS⟩, h4, h5⟩ := h3
  obtain ⟨y, rfl⟩ : ∃ y : Nat, x = (y : Int) := ⟨x.toNat, by omega⟩
  simp only [Int.toNat_natCast] at hxS hRok hRbad
  have hyS : y < S.length := by omega
  have hVS : VS S := h2.1
  have hl : V.length = Ix.prod (S.map Int.toNat) := h2.2.1
  have hvv := h2.2.2
  have hS4 := hVS.1
  have hSm : (S.map Int.toNat).length = S.length := List.length_map _
  have hEL := eraseIdx_len hyS
  obtain ⟨N, hN⟩ : ∃ N, N = (S.map Int.toNat).getD y 0 := ⟨_, rfl⟩
  rw [← hN] at hRok
  have hN1 : N ≤ 1024 := by
    have := (hVS.2.1 _ (List.getElem_mem hyS)).2
    rw [hN, getD_in (by rw [hSm]; exact hyS), List.getElem_map]; omega
  obtain ⟨qv, hqv⟩ : ∃ b : Bool, b = true ↔ VS (S.eraseIdx y) := by classical exact ⟨decide _, decide_eq_true_iff⟩
  have WO := Lib.hid (fun W (hW : Below w.heap.size w W) => rwithout_any S y c A W ((hS.below hW).more hW.size) hyS (by omega))
  obtain ⟨PS, hPS⟩ : ∃ PS, PS = (S.map Int.toNat).eraseIdx y := ⟨_, rfl⟩
  have hPm : (S.eraseIdx y).map Int.toNat = PS := by rw [hPS, map_erase]
  have hPl : PS.length = S.length - 1 := by rw [← hPm, List.length_map]; omega
  obtain ⟨f, hf⟩ : ∃ f, f = fun k => redT red (numsT (alV (S.map Int.toNat) V y ((idx PS k).insertIdx y 0) (List.range N))) := ⟨_, rfl⟩
  have htab : alongV (S.map Int.toNat) V y red 1 (fun _ => List.range N) = (List.range (Ix.prod PS)).map f := by
    unfold alongV
    rw [tab_set1 _ _ (by rw [hSm]; exact hyS), hf, hPS]
    rfl
  rw [htab] at hRok
  have HF := Lib.hid (fun k => show f k = redT red (numsT (alV (S.map Int.toNat) V y ((idx PS k).insertIdx y 0) (List.range N))) from by rw [hf])
  have HIL := Lib.hid (fun k => show (idx PS k).length = S.length - 1 from by rw [idx_len, hPl])
  have AL := Lib.hid (fun W (hW : Below w.heap.size w W) (k : Nat) (hk : k < Ix.prod PS) vI (hI : IsI W W.heap.size vI (((idx PS k).insertIdx y 0).map Int.ofNat)) => ralong_any S V y N ((idx PS k).insertIdx y 0) _ vI W (hha.next hW) hI hVS hl hyS (by rw [List.length_insertIdx_of_le_length (by rw [HIL.out]; omega), HIL.out]; omega) hN (fun p hp => by
    rw [ins_set _ _ _ _ (by rw [HIL.out]; omega)]
    exact inside_ins _ _ _ _ (by rw [hSm]; exact hyS) (by rw [← hPS]; exact idx_inside _ k hk) (by rw [← hN]; exact hp)))
  have hN3 : ∀ k, k < Ix.prod PS → N ≤ 5000 := fun k hk => by
    have e1 := prod_erase_le (S.map Int.toNat) y (by rw [hSm]; exact hyS)
    rw [← hl, ← hN, ← hPS] at e1
    have e4 := Nat.le_mul_of_pos_right N (show 0 < Ix.prod PS by omega)
    omega
  have RD := Lib.hid (fun W (k : Nat) (hk : k < Ix.prod PS) u (hu : IsT W W.heap.size u (alV (S.map Int.toNat) V y ((idx PS k).insertIdx y 0) (List.range N))) => rreduction_any _ red u W hu (by rw [alV_len, List.length_range]; exact hN3 k hk) (fun s hs => (alV_val hvv s hs).2) (fun s hs => (alV_val hvv s hs).1) h4 h5)
  have VSH := Lib.hid (fun W (B : Nat) (Au : Option Addr) (cu : Nat) (hu : Rd W B Au (zints (S.eraseIdx y))) => rvalidshape_any (S.eraseIdx y) Au cu B W hu (by unfold maxLen; omega) qv hqv)
  rw [show (S.eraseIdx y).length = S.length - 1 by omega] at VSH
  have CC := Lib.hid (fun (hq : VS (S.eraseIdx y)) W (B : Nat) (Au : Option Addr) (cu : Nat) (hu : Rd W B Au (zints (S.eraseIdx y))) => rcount_any PS Au cu B W (by have := hq.sz; rwa [hPm] at this) (by rw [← hPm, ← hq.cells]; exact hu))
  have IX := Lib.hid (fun (hq : VS (S.eraseIdx y)) W (Au : Option Addr) (cu : Nat) (hu : Rd W W.heap.size Au (zints (S.eraseIdx y))) (k : Nat) (hk : k < Ix.prod PS) => rindex_any PS k Au cu W (by have := hq.sz; rwa [hPm] at this) hk (by rw [← hPm, ← hq.cells]; exact hu))
  rw [hPl] at CC IX
  have HP4 := Lib.hid (fun (hq : VS (S.eraseIdx y)) => show Ix.prod PS ≤ 4096 from by have := hq.2.2; rwa [hPm] at this)
  have HRok := Lib.hid hRok
  have HRbad := Lib.hid hRbad
  have HQV := Lib.hid hqv
  have hxS' : (y : Int) < (S.length : Int) := hxS
  have hx0' : (0 : Int) ≤ (y : Int) := by omega
  generalize reduceR (S, V) (y : Int) red = R at *
  obtain ⟨Ra, Re⟩ := R
  clear hS hT hi hha ha hN h2 hVS hSm h4 h5 hRok hRbad hl hvv hPS hPm hf htab hN3 hqv h1 hxS hx0
  generalize hr : S.length - 1 = r at *
  go_enter Tryz.func54, Tryz.ntmps54
  obtain ⟨b0, b1⟩ := bkA B0.one
  go_wp2_with fail
  generalize ((w.alloc (.cells #[.slice A S.length c, .slice A' V.length c'] 25)).alloc (.cells #[.slice none 0 0, .slice none 0 0] 25)) = W0 at *
  refine (CK.out W0 B0.below).mono ?_
  rintro e w1 ⟨hb1, rfl⟩
  have B1 := B0.next hb1
  clear b0 b1
  obtain ⟨b0, b1⟩ := bkA B1.one
  go_wp2_with fail
  refine (WO.out w1 B1.below).mono ?_
  rintro e w2 ⟨hb2, v9, rfl, hown⟩
  have B2 := B1.next hb2
  obtain ⟨A9, c9, rfl⟩ := own_formV hown
  have hI := IsI.of_own hown
  have hb3 := below_alloc w2 (.cells #[.slice A9 (r) c9, .slice none 0 0] 25)
  have B3 := B2.next hb3
  have hI3 := hI.next hb3
  have l1 := B2.one.lt
  have l2 := B2.two.lt
  have ko := Bk.new w2 25 #[Value.slice A9 (r) c9, .slice none 0 0]
  have M0 := AppAt.start (w := w) (ob := w2.heap.size) (ks := [(w.heap.size, 25, #[.slice A S.length c, .slice A' V.length c']), (w.heap.size + 1, 25, #[.slice none 0 0, .slice none 0 0])]) B3.below B3.keep ko hI3 B2.below.size (fun p hp => by
    simp at hp
    rcases hp with rfl | rfl
    · show w.heap.size ≠ w2.heap.size; simp only at l1; omega
    · show w.heap.size + 1 ≠ w2.heap.size; simp only at l2; omega)
  have SH := Lib.hid (VSH.out _ _ A9 c9 hI3.rd)
  obtain ⟨o0, o1⟩ := bkA ko
  clear hown hI hI3 hb3 hb2 hb1 B0 B1 B2 CK WO b0 b1 l1 l2 ko VSH
  go_wp2_with fail
  generalize w2.alloc (.cells #[.slice A9 (r) c9, .slice none 0 0] 25) = w4 at *
  generalize w2.heap.size = ob at *
  refine SH.out.mono ?_
  rintro e w' ⟨rfl, rfl⟩
  clear SH o0 o1
  cases hqv : qv
  · have hno : ¬ VS (S.eraseIdx y) := fun h => by rw [HQV.out.2 h] at hqv; cases hqv
    have hR := HRbad.out hno
    injection hR with e1 e2
    subst e1
    subst e2
    obtain ⟨d0, d1⟩ := bkA B3.two
    have f0 := B3.two.frozen 0
    have f1 := B3.two.frozen 1
    have hb := B3.below
    clear HRok HRbad HQV hqv hno M0 AL RD CC IX HP4 HF HIL B3
    go_wp2
    refine bodyPost_ret (v := .tuple #[.agg #[.slice none 0 0, .slice none 0 0], .int .i64 60]) (by simp [results, Tryz.results54, go_sem, d0, d1]) rfl ?_
    exact ⟨(hb.setCell (p := ⟨w.heap.size + 1, 0, none⟩) (by simp) _).setCell (p := ⟨w.heap.size + 1, 1, none⟩) (by simp) _, _, rfl, IsA.zero _ _⟩
  have hvs := HQV.out.1 hqv
  have hR := HRok.out hvs
  injection hR with e1 e2
  subst e2
  have HRA := Lib.hid e1
  have hp4 := HP4.out hvs
  have CC2 := Lib.hid (CC.out hvs)
  have IX2 := Lib.hid (IX.out hvs)
  obtain ⟨NN, hNN⟩ : ∃ n, n = Ix.prod PS := ⟨_, rfl⟩
  rw [← hNN] at HRA hp4 CC2 IX2 AL RD
  clear e1 HRok HRbad HQV hqv HP4 CC IX B3 hNN hvs
  go_wp2_with fail
  go_loopw [10] (fun i wr => ∃ (k : Nat) (x : Value), k ≤ NN ∧ i = .int .i64 k ∧ AppAt w w4.heap.size ob [(w.heap.size, 25, #[.slice A S.length c, .slice A' V.length c']), (w.heap.size + 1, 25, #[.slice none 0 0, .slice none 0 0])] (.slice A9 (r) c9) (S.eraseIdx y) x ((List.range k).map f) wr) (fun i _ => NN - (intOf i).toNat)
  case atStart => exact ⟨0, _, Nat.zero_le _, rfl, M0⟩
  case round =>
    clear M0
    obtain ⟨k, x, hk, rfl, M⟩ := hrel
    obtain ⟨xA, xc, rfl⟩ := own_formV M.own
    rw [map_len] at M
    obtain ⟨o0, o1⟩ := bkA M.box
    have hsr := (M.shape.more M.size).rd
    have CC3 := Lib.hid (CC2.out wr _ A9 c9 hsr)
    go_wp2_with fail
    refine CC3.out.mono ?_
    rintro e w' ⟨rfl, rfl⟩
    clear CC3
    by_cases hlt : k < NN
    · have HFK := Lib.hid (HF.out k)
      have hilk := HIL.out k
      have ALk := Lib.hid (fun W hW vI hI => AL.out W hW k hlt vI hI)
      have RDk := Lib.hid (fun W u hu => RD.out W k hlt u hu)
      have IXk := Lib.hid (IX2.out wr A9 c9 hsr k hlt)
      generalize idx PS k = J at *
      clear AL RD HF HIL IX2 CC2 hsr
      go_wp2_with fail
      refine IXk.out.mono ?_
      rintro e w5 ⟨hb5, rfl, hX5⟩
      have M5 := M.next hb5
      clear M o0 o1 IXk hb5
      generalize wr.heap.size = xb at *
      have hyr : y ≤ r := by omega
      have hrb : r ≤ 4 := by omega
      have hw5 := M5.below.size
      have hRX : Rd w5 w5.heap.size (some ⟨xb, 0, none⟩) (zints (J.map Int.ofNat)) := by
        have := hX5.rd
        rw [zints_nat]; exact this
      have CP5 := copied_any (some ⟨xb, 0, none⟩) y (r) ((J.map Int.ofNat).take y) w5 (by rw [List.length_take, List.length_map]; omega) (by omega) (by
        have := hRX.take y
        rwa [show (zints (J.map Int.ofNat)).take y = zints ((J.map Int.ofNat).take y) by simp [zints, List.map_take]] at this)
      obtain ⟨p, hp, HR⟩ : ∃ p : Addr, (if r = y then some (⟨xb, 0, none⟩ : Addr) else some (⟨xb, y, none⟩ : Addr)) = some p ∧ Hid (∀ W, Below w5.heap.size w5 W → Rd W w5.heap.size (some p) (zints ((J.map Int.ofNat).drop y))) := by
        refine ⟨if r = y then ⟨xb, 0, none⟩ else ⟨xb, y, none⟩, by split <;> rfl, fun W hW => ?_⟩
        have h1 := (hRX.below hW).cut (k := y) (cap := r) (by rw [zints_len, List.length_map]; omega)
        rw [show (zints (J.map Int.ofNat)).drop y = zints ((J.map Int.ofNat).drop y) by simp [zints, List.map_drop]] at h1
        by_cases h0 : r = y
        · rw [if_pos h0] at h1 ⊢; exact h1
        · rw [if_neg h0] at h1 ⊢
          have e : (some (⟨xb, 0, none⟩ : Addr)).map (·.add y) = some ⟨xb, y, none⟩ := by
            show some ((⟨xb, 0, none⟩ : Addr).add y) = _
            rw [addr_mk, Nat.zero_add]
          rw [e] at h1
          exact h1
      have HP := Lib.hid hp
      have HJ : Hid (zints ((J.map Int.ofNat).take y) ++ [.int .i64 0] ++ zints ((J.map Int.ofNat).drop y) = zints ((J.insertIdx y 0).map Int.ofNat)) := by
        show _ = _
        rw [ins_split J y 0 (by omega)]
        simp [zints, List.map_take, List.map_drop]
      have HJL : Hid ((zints ((J.map Int.ofNat).drop y)).length = (r - y) * 1) := by
        show _ = _
        rw [zints_len, List.length_drop, List.length_map]; omega
      have HM5 := Lib.hid M5
      have q0 : (y : Int) ≤ (r : Int) := by omega
      clear hRX hp M5 hX5
      go_wp2_with fail
      refine CP5.mono ?_
      rintro e w6 ⟨hb6, v6, rfl, hown6⟩
      obtain ⟨v6A, v6c, rfl⟩ := own_formV hown6
      have HO6 := Lib.hid (hown6.alloc (.cells #[.int .i64 0] 3))
      have hz6 := hb6.size
      have hCA := hb6.alloc hz6 (.cells #[.int .i64 0] 3)
      clear hown6 CP5 hb6
      go_wp2_with (first | (at_builtin; refine wpL_append _ rfl (.tmp 45) (.tmp 46) _ rfl w5.heap.size 3 i1 _ 1 8 Tryz.underlying22 hi1 hy0 hy1 hy2 rfl (by omega) _ y _ rfl HO6.out _ 1 1 [.int .i64 0] rfl rfl (Rd.of_new w6 [.int .i64 0] 3) (zints_one [0]) (by unfold maxLen; omega) (by omega) (by simp only [World.size_alloc]; omega) ?_; intro v7 w7 hown7 hg7 hat7; have hC7 := below_app hCA hg7 (by simp only [World.size_alloc]; omega) HO6.out (Nat.le_refl _); obtain ⟨v7A, v7c, rfl⟩ := own_formV hown7; clear hg7 hat7) | (at_builtin; rw [HP.out]; have hz7 := hC7.size; refine wpL_append _ rfl (.tmp 48) (.tmp 51) _ rfl w5.heap.size 3 i1 _ 1 8 Tryz.underlying22 hi1 hy0 hy1 hy2 rfl (by omega) _ (y + 1) _ rfl hown7 (some p) (r - y) (r - y) (zints ((J.map Int.ofNat).drop y)) rfl HJL.out (HR.out w7 hC7) (zints_one _) (by unfold maxLen; omega) (by omega) hz7 ?_; intro v8 w8 hown8 hg8 hat8; have hC8 := below_app hC7 hg8 hz7 hown7 (Nat.le_refl _); clear hg8 hat8))
      rw [HJ.out] at hown8
      have hI8 := IsI.of_own hown8
      obtain ⟨v8A, v8c, rfl⟩ := own_formV hown8
      have M8 := HM5.out.next hC8
      have AL8 := Lib.hid (ALk.out w8.drew M8.below.drew _ (show IsI w8.drew w8.drew.heap.size _ _ from hI8))
      obtain ⟨b0, b1⟩ := bkA M8.box
      have KA := M8.keep (w.heap.size, 25, #[.slice A S.length c, .slice A' V.length c']) (by simp)
      obtain ⟨a0, a1⟩ := bkA KA
      clear hown8 hI8 hown7 HR HP HJ HJL HM5 ALk hC8 hC7 HO6 hCA KA
      go_wp2_with fail
      refine wp_region_M 11 (by kernel_rfl) (fun Y => (Y.cell? ⟨ob, 0, none⟩ = some (.slice A9 r c9) ∧ Y.cell? ⟨ob, 1, none⟩ = some (.slice xA k xc)) ∧ (Y.cell? ⟨w.heap.size, 0, none⟩ = some (.slice A S.length c) ∧ Y.cell? ⟨w.heap.size, 1, none⟩ = some (.slice A' V.length c'))) ⟨⟨b0, b1⟩, a0, a1⟩ (fun hS0 => ?_)
      clear b0 b1 a0 a1
      have Md := M8.drew
      clear M8
      refine takeM (i := 0) (v := ?_) rfl (by kernel_rfl) (by decide) (by kernel_rfl) (by kernel_rfl) (by kernel_rfl) (fun _ _ _ h => h) (by rfl) (by assumption) ?_ ?_
      rotate_left
      · intro w hSw; (try dsimp only at hSw); go_simp <;> with_reducible rfl
      try simp only [Act.put, List.setIfInBounds_toArray, List.set_cons_zero, List.set_cons_succ]
      refine takeM (i := 1) (v := ?_) rfl (by kernel_rfl) (by decide) (by kernel_rfl) (by kernel_rfl) (by kernel_rfl) (fun _ _ _ h => h) (by rfl) (by assumption) ?_ ?_
      rotate_left
      · intro w hSw; (try dsimp only at hSw); go_simp <;> with_reducible rfl
      try simp only [Act.put, List.setIfInBounds_toArray, List.set_cons_zero, List.set_cons_succ]
      refine takeM (i := 2) (v := ?_) rfl (by kernel_rfl) (by decide) (by kernel_rfl) (by kernel_rfl) (by kernel_rfl) (fun _ _ _ h => h) (by rfl) (by assumption) ?_ ?_
      rotate_left
      · intro w hSw; (try dsimp only at hSw); go_simp <;> with_reducible rfl
      try simp only [Act.put, List.setIfInBounds_toArray, List.set_cons_zero, List.set_cons_succ]
      refine takeM (i := 3) (v := ?_) rfl (by kernel_rfl) (by decide) (by kernel_rfl) (by kernel_rfl) (by kernel_rfl) (fun _ _ _ h => h) (by rfl) (by assumption) ?_ ?_
      rotate_left
      · intro w hSw; (try dsimp only at hSw); go_simp <;> with_reducible rfl
      try simp only [Act.put, List.setIfInBounds_toArray, List.set_cons_zero, List.set_cons_succ]
      refine takeM (i := 4) (v := ?_) rfl (by kernel_rfl) (by decide) (by kernel_rfl) (by kernel_rfl) (by kernel_rfl) (fun _ _ _ h => h) (by rfl) (by assumption) ?_ ?_
      rotate_left
      · intro w hSw; (try dsimp only at hSw); go_simp <;> with_reducible rfl
      try simp only [Act.put, List.setIfInBounds_toArray, List.set_cons_zero, List.set_cons_succ]
      refine takeM (i := 6) (v := ?_) rfl (by kernel_rfl) (by decide) (by kernel_rfl) (by kernel_rfl) (by kernel_rfl) (fun _ _ _ h => h) (by rfl) (by assumption) ?_ ?_
      rotate_left
      · intro w hSw; (try dsimp only at hSw); go_simp <;> with_reducible rfl
      try simp only [Act.put, List.setIfInBounds_toArray, List.set_cons_zero, List.set_cons_succ]
      clear hS0
      refine stepM (i := 5) rfl (by kernel_rfl) (fun K0 hK0 => ?_)
      go_simp
      refine AL8.out.mono ?_
      rintro e w9 ⟨hb9, u, rfl, hu⟩
      obtain ⟨Au, cu, hue, -⟩ := hu.form
      subst hue
      have M9 := Md.next hb9
      have KA := M9.keep (w.heap.size, 25, #[.slice A S.length c, .slice A' V.length c']) (by simp)
      have hS9 := And.intro (bkA M9.box) (bkA KA)
      have RD9 := Lib.hid (RDk.out w9 _ hu)
      dsimp only
      refine hK0.out _ _ (fun _ => hS9) (fun _ => ?_)
      clear hK0 K0 Md hb9 AL8 hu RDk KA
      try simp only [Act.put, List.setIfInBounds_toArray, List.set_cons_zero, List.set_cons_succ]
      clear hS9
      refine stepM (i := 7) rfl (by kernel_rfl) (fun K0 hK0 => ?_)
      go_simp
      refine RD9.out.mono ?_
      rintro e wA ⟨hbA, rfl⟩
      rw [← HFK.out]
      have MB := M9.next hbA
      have KA := MB.keep (w.heap.size, 25, #[.slice A S.length c, .slice A' V.length c']) (by simp)
      have hSB := And.intro (bkA MB.box) (bkA KA)
      dsimp only
      refine hK0.out _ _ (fun _ => hSB) (fun _ => ?_)
      clear hK0 K0 M9 hbA RD9 KA hSB
      try simp only [Act.put, List.setIfInBounds_toArray, List.set_cons_zero, List.set_cons_succ]
      generalize hfk : f k = tx at *
      have HFX := Lib.hid hfk
      clear hfk HFK
      have MA := MB.alloc (.cells #[.string tx] 9)
      have KA := MA.keep (w.heap.size, 25, #[.slice A S.length c, .slice A' V.length c']) (by simp)
      have hS8 := And.intro (bkA MA.box) (bkA KA)
      refine stepM (i := 8) rfl (by kernel_rfl) (fun K0 hK0 => ?_)
      go_simp
      refine hK0.out _ _ (fun _ => hS8) (fun _ => ?_)
      clear hK0 K0 hS8 KA
      try simp only [Act.put, List.setIfInBounds_toArray, List.set_cons_zero, List.set_cons_succ]
      have hown0 := MA.own
      rw [map_len] at hown0
      refine stepM (i := 9) rfl (by kernel_rfl) (fun K0 hK0 => ?_)
      rw [if_pos (by rfl)]
      refine step_append_own (.tmp 54) (.tmp 61) 23 rfl w4.heap.size 9 i0 (.string ⟨#[]⟩) 1 16 Tryz.underlying23 hi0 hz0 hz1 hz2 rfl (by omega) (.slice xA k xc) k _ (by rfl) hown0 ⟨wA.heap.size, 0, none⟩ 1 1 [.string tx] (by rfl) (by rfl) (new_str wA _ tx) (strs_one [tx]) (by unfold maxLen; omega) (by omega) MA.size ?_
      intro v1 wB hown1 hg1
      obtain ⟨vA, vc, rfl⟩ := own_formV hown1
      have MM := MA.app (x := tx) (by rw [map_len]; exact hown1) hg1
      clear hown1 hg1 hown0 MA MB
      obtain ⟨g0, g1, gf⟩ := MM.facts
      have KA := MM.keep (w.heap.size, 25, #[.slice A S.length c, .slice A' V.length c']) (by simp)
      have hS9 := And.intro (And.intro g0 g1) (bkA KA)
      dsimp only
      refine hK0.out _ _ (fun _ => hS9) (fun _ => ?_)
      clear hK0 K0 KA
      try simp only [Act.put, List.setIfInBounds_toArray, List.set_cons_zero, List.set_cons_succ]
      refine takeM (i := 10) (v := ?_) rfl (by kernel_rfl) (by decide) (by kernel_rfl) (by kernel_rfl) (by kernel_rfl) (fun _ _ _ h => h) (by rfl) (by assumption) ?_ ?_
      rotate_left
      · intro w hSw; (try dsimp only at hSw); go_simp <;> with_reducible rfl
      try simp only [Act.put, List.setIfInBounds_toArray, List.set_cons_zero, List.set_cons_succ]
      clear hS9
      refine stepM (i := 11) rfl (by kernel_rfl) (fun K0 hK0 => ?_)
      go_simp
      refine hK0.out _ _ (fun h => absurd rfl h) (fun _ => ?_)
      clear hK0 K0
      try simp only [Act.put, List.setIfInBounds_toArray, List.set_cons_zero, List.set_cons_succ]
      refine doneM (by kernel_rfl) ?_ _
      have MP := MM.put
      have e1 : (List.range k).map f ++ [tx] = (List.range (k + 1)).map f := by rw [map_snoc, HFX.out]
      rw [e1] at MP
      clear MM g0 g1 gf
      go_wp2
      go_roundw
      case rel => exact ⟨k + 1, _, by omega, by go_num, MP⟩
      case measure => simp [intOf]; omega
    · obtain rfl : k = NN := by omega
      have KR := M.keep (w.heap.size + 1, 25, #[.slice none 0 0, .slice none 0 0]) (by simp)
      obtain ⟨d0, d1⟩ := bkA KR
      have f0 := KR.frozen 0
      have f1 := KR.frozen 1
      have hA := M.isA
      have hb := M.below
      go_wp2
      refine bodyPost_ret (v := .tuple #[.agg #[.slice A9 (r) c9, .slice xA k xc], .int .i64 0]) (by simp [results, Tryz.results54, go_sem, d0, d1]) rfl ?_
      exact ⟨(hb.setCell (p := ⟨w.heap.size + 1, 0, none⟩) (by simp) _).setCell (p := ⟨w.heap.size + 1, 1, none⟩) (by simp) _, _, rfl, by rw [HRA.out]; exact hA.ret d0 d1 _ _⟩
end Go.Proofs.YtgnffedncjjkfaaGreatDoor

namespace Go.Proofs.YtgnffedncjjkfaaGreatDoor
open Go.RowKit Ix Ar

theorem reduceR_in {a : Arr} {x red : Int} (h : InA a) : (reduceR a x red).1.1.length ≤ maxLen ∧ (reduceR a x red).1.2.length ≤ maxLen := by
  by_cases h1 : VA a
  · by_cases h2 : AxOk a x red
    · by_cases h3 : VS (a.1.eraseIdx x.toNat)
      · rw [reduceR_ok h1 h2 h3]
        have hx : x.toNat < a.1.length := by have := h2.1; omega
        have hl := eraseIdx_len hx
        generalize hY : alongV (a.1.map Int.toNat) a.2 x.toNat red 1 (fun _ => List.range ((a.1.map Int.toNat).getD x.toNat 0)) = Y
        have h4 := h.shape
        have h5 : Y.length ≤ 4096 := by
          rw [← hY, along_len, prod_set1 _ _ (by rw [List.length_map]; exact hx), ← map_erase]
          exact h3.2.2
        refine ⟨?_, ?_⟩
        · show (a.1.eraseIdx x.toNat).length ≤ maxLen
          omega
        · show Y.length ≤ maxLen
          unfold maxLen
          omega
      · rw [reduceR_shape h1 h2 h3]; exact ⟨Nat.zero_le _, Nat.zero_le _⟩
    · rw [reduceR_arg h1 h2]; exact ⟨Nat.zero_le _, Nat.zero_le _⟩
  · rw [reduceR_bad h1]; exact ⟨Nat.zero_le _, Nat.zero_le _⟩

set_option maxRecDepth 100000 in
set_option maxHeartbeats 3200000 in
theorem reduces_walk (a : Arr) (x red : Int) (va : Value) (w : World) (ha : IsA w w.heap.size va a) (hL : a.1.length ≤ maxLen) (hM : a.2.length ≤ maxLen) (_ : ∀ s ∈ a.1, -9223372036854775808 ≤ s ∧ s ≤ 9223372036854775807)
    (_ : -9223372036854775808 ≤ x) (_ : x ≤ 9223372036854775807) (_ : -9223372036854775808 ≤ red) (_ : red ≤ 9223372036854775807) (he : Env w) (her : EnvR w) :
    Calls Tryz.prog 12 #[va, .int .i64 x, .int .i64 red] w fun r w' => Below w.heap.size w w' ∧ r = .returned (.bool true) := by
  obtain ⟨q, hq⟩ : ∃ b : Bool, b = true ↔ ¬ Slim a := by classical exact ⟨decide _, decide_eq_true_iff⟩
  have WD := Lib.hid (fun W (hW : Below w.heap.size w W) => wide_any a _ W (ha.next hW) hL hM q hq)
  have SN := Lib.hid (fun W (hW : Below w.heap.size w W) => sane_any W (he.next hW))
  obtain ⟨A, c, A', c', rfl, -, -⟩ := ha.form
  have hha := ha
  obtain ⟨S, V⟩ := a
  simp only at hL hM
  have B0 : BxW w [(w.heap.size, 25, #[.slice A S.length c, .slice A' V.length c'])] (w.alloc (.cells #[.slice A S.length c, .slice A' V.length c'] 25)) := (BxW.nil w).new _ _
  cases q
  rotate_left
  · clear hq ha hha he her
    go_enter Tryz.func12, Tryz.ntmps12
    obtain ⟨b0, b1⟩ := bkA B0.one
    go_wp2_with fail
    generalize w.alloc (.cells #[.slice A S.length c, .slice A' V.length c'] 25) = W0 at *
    refine (WD.out W0 B0.below).mono ?_
    rintro r w1 ⟨hb1, rfl⟩
    have B1 := B0.next hb1
    go_wp2_with fail
    refine (SN.out w1 B1.below).mono ?_
    rintro r w2 ⟨hb2, rfl⟩
    go_wp2
    go_ret
    exact ⟨(B1.next hb2).below, rfl⟩
  have hs : Slim (S, V) := by
    apply Classical.byContradiction
    intro h'
    have := hq.2 h'
    cases this
  obtain ⟨-, hl1, hl2⟩ := hs
  simp only at hl1 hl2
  have hi : InA (S, V) := ⟨hL, by show V.length ≤ _; omega, fun s hs => by have := hl2 s hs; omega⟩
  have F1 := Lib.hid (fun W (hW : Below w.heap.size w W) => preduce_any (S, V) x red _ W (hha.next hW) hi (he.next hW) (her.next hW) (by show V.length ≤ 5000; omega))
  have F2 := Lib.hid (fun W (hW : Below w.heap.size w W) => rreduce_any (S, V) x red _ W (hha.next hW) hi (by show V.length ≤ 5000; omega))
  have hRi := reduceR_in (x := x) (red := red) hi
  generalize reduceR (S, V) x red = R at *
  obtain ⟨R1, R2⟩ := R
  simp only at F1 F2 hRi
  have AG := Lib.hid (fun W u v (hu : IsA W W.heap.size u R1) (hv : IsA W W.heap.size v R1) => agrees_any R1 R1 u v R2 R2 W hu hv hRi.1 hRi.2 true (by simp))
  clear hq ha hha he her hi hRi hl2
  go_enter Tryz.func12, Tryz.ntmps12
  obtain ⟨b0, b1⟩ := bkA B0.one
  go_wp2_with fail
  generalize w.alloc (.cells #[.slice A S.length c, .slice A' V.length c'] 25) = W0 at *
  refine (WD.out W0 B0.below).mono ?_
  rintro r w1 ⟨hb1, rfl⟩
  have B1 := B0.next hb1
  clear b0 b1 B0 hb1
  obtain ⟨b0, b1⟩ := bkA B1.one
  go_wp2_with fail
  refine (F1.out w1 B1.below).mono ?_
  rintro r w2 ⟨hb2, u, rfl, hu⟩
  obtain ⟨A1, c1, A2, c2, rfl, -, -⟩ := hu.form
  have B2 := (B1.next hb2).new 25 #[.slice A1 R1.1.length c1, .slice A2 R1.2.length c2]
  have hu3 := hu.next (below_alloc w2 (.cells #[.slice A1 R1.1.length c1, .slice A2 R1.2.length c2] 25))
  clear b0 b1 B1 hb2 hu
  obtain ⟨b0, b1⟩ := bkA B2.one
  go_wp2_with fail
  generalize w2.alloc (.cells #[.slice A1 R1.1.length c1, .slice A2 R1.2.length c2] 25) = w3 at *
  generalize w2.heap.size = bu at *
  refine (F2.out w3 B2.below).mono ?_
  rintro r w4 ⟨hb4, v, rfl, hv⟩
  obtain ⟨C1, d1, C2, d2, rfl, -, -⟩ := hv.form
  have B4 := (B2.next hb4).new 25 #[.slice C1 R1.1.length d1, .slice C2 R1.2.length d2]
  have ba := below_alloc w4 (.cells #[.slice C1 R1.1.length d1, .slice C2 R1.2.length d2] 25)
  have hu5 := (hu3.next hb4).next ba
  have hv5 := hv.next ba
  clear b0 b1 B2 hb4 hu3 hv ba
  obtain ⟨y0, y1⟩ := bkA B4.two
  obtain ⟨z0, z1⟩ := bkA B4.three
  go_wp2_with fail
  generalize w4.alloc (.cells #[.slice C1 R1.1.length d1, .slice C2 R1.2.length d2] 25) = w5 at *
  generalize w4.heap.size = bv at *
  refine (AG.out w5 _ _ hu5 hv5).mono ?_
  rintro r w6 ⟨hb6, rfl⟩
  have B6 := B4.next hb6
  clear y0 y1 z0 z1 B4 hb6 hu5 hv5
  go_wp2_with fail
  refine (SN.out w6 B6.below).mono ?_
  rintro r w7 ⟨hb7, rfl⟩
  go_wp2
  go_ret
  exact ⟨(B6.next hb7).below, rfl⟩
end Go.Proofs.YtgnffedncjjkfaaGreatDoor
