/-
  Plain law: reductions of lists of numbers.
  Walks: ratio.Frac's Cmp, Text, Value; slices.MinFunc, MaxFunc at ratio.Frac.
  Walks: slices.MinFunc, MaxFunc at ratio.Frac.
  Walks: array.reduction, array.reduced, array.Reduced.
  Walks: the reference's Put, Total, FromInt, two, Compare, isReduction.
  Walks: the reference's two, Compare, Reduction, Reduced; array.Reduced.
  Walks: Reduction, Reduced of the reference; array.Reduced.
-/
import Derived.Test.YtgnffedncjjkfaaGreatDoorSumF
import Derived.Test.YtgnffedncjjkfaaGreatDoorValA
import Derived.Test.YtgnffedncjjkfaaGreatDoorValR
import Derived.Test.YtgnffedncjjkfaaGreatDoorTxtS
import Derived.Test.YtgnffedncjjkfaaGreatDoorArxA
import Derived.Test.YtgnffedncjjkfaaGreatDoorHeldT
import Derived.Test.YtgnffedncjjkfaaGreatDoorQqP
namespace Go.Proofs.YtgnffedncjjkfaaGreatDoor
open Go.RowKit Ar

noncomputable def numB (s : ByteArray) : Bool := @decide (IsNum s.data.toList) (Classical.propDecidable _)
theorem numB_iff (s : ByteArray) : numB s = true ↔ IsNum s.data.toList := by unfold numB; exact @decide_eq_true_iff _ (Classical.propDecidable _)
/-- The numbers among texts. -/
noncomputable def numT (s : ByteArray) : List Rat := if numB s then [textRat s.data.toList] else []
noncomputable def numsT (L : List ByteArray) : List Rat := L.flatMap numT
theorem numsT_app (L M : List ByteArray) : numsT (L ++ M) = numsT L ++ numsT M := List.flatMap_append
theorem numsT_snoc (L : List ByteArray) (s : ByteArray) : numsT (L ++ [s]) = numsT L ++ numT s := by simp [numsT]
theorem numT_len (s : ByteArray) : (numT s).length ≤ 1 := by unfold numT; split <;> simp
theorem numsT_len (L : List ByteArray) : (numsT L).length ≤ L.length := by
  induction L with
  | nil => exact Nat.le_refl _
  | cons s L ih =>
    have := numT_len s
    show (numT s ++ numsT L).length ≤ L.length + 1
    rw [List.length_append]; omega
theorem numT_rev (s : ByteArray) : (numT s).reverse = numT s := by unfold numT; split <;> rfl
theorem numsT_rev (L : List ByteArray) : numsT L.reverse = (numsT L).reverse := by
  induction L with
  | nil => rfl
  | cons s L ih =>
    rw [List.reverse_cons, numsT_snoc, ih]
    show _ = (numT s ++ numsT L).reverse
    rw [List.reverse_append, numT_rev]
/-- A number with at most 40 digits above and below. -/
def Short (q : Rat) : Prop := (Lib.decDigits (nm q)).length ≤ 40 ∧ (Lib.decDigits (dn q)).length ≤ 40
instance (q : Rat) : Decidable (Short q) := inferInstanceAs (Decidable (_ ∧ _))
/-- A number's text, or none if it is too long. -/
def putT (q : Rat) : ByteArray := if Short q then ⟨(ratText q).toArray⟩ else ⟨#[]⟩
theorem ba_list {a b : ByteArray} (h : a.data.toList = b.data.toList) : a = b := by
  cases a; cases b; congr 1; exact Array.toList_inj.1 h
theorem num_text {s : ByteArray} (h : numB s = true) : ratText (textRat s.data.toList) = s.data.toList := ratText_textRat ((numB_iff s).1 h).1
theorem num_short {s : ByteArray} (h : numB s = true) : Short (textRat s.data.toList) := by
  refine (isNum_text _).1 ?_
  rw [num_text h]
  exact (numB_iff s).1 h
theorem num_put {s : ByteArray} (h : numB s = true) : putT (textRat s.data.toList) = s := by
  unfold putT
  rw [if_pos (num_short h), num_text h]
theorem put_num {q : Rat} (h : Short q) : numB (putT q) = true ∧ textRat (putT q).data.toList = q := by
  unfold putT
  rw [if_pos h]
  refine ⟨(numB_iff _).2 ?_, ?_⟩
  · show IsNum (ratText q).toArray.toList
    exact (isNum_text q).2 h
  · show textRat (ratText q).toArray.toList = q
    exact (isText_ratText q).2
theorem numsT_mem {L : List ByteArray} {q : Rat} (h : q ∈ numsT L) : ∃ s ∈ L, numB s = true ∧ q = textRat s.data.toList := by
  obtain ⟨s, hs, hq⟩ := List.mem_flatMap.1 h
  unfold numT at hq
  split at hq
  · rename_i hn
    exact ⟨s, hs, hn, by simpa using hq⟩
  · cases hq
theorem numsT_short {L : List ByteArray} {q : Rat} (h : q ∈ numsT L) : Short q := by
  obtain ⟨s, _, hn, rfl⟩ := numsT_mem h
  exact num_short hn
theorem num_sz {s : ByteArray} (h : numB s = true) : sz (textRat s.data.toList) ≤ 200 := by
  have hn := (numB_iff s).1 h
  have := sz_plain (text_plain hn.1) (M := 82) (isNum_len hn)
  omega
theorem numsT_sz {L : List ByteArray} {q : Rat} (h : q ∈ numsT L) : sz q ≤ 200 := by
  obtain ⟨s, _, hn, rfl⟩ := numsT_mem h
  exact num_sz hn
/-- Better: less for 3, greater for 4. -/
def Better (red : Int) (q m : Rat) : Prop := (red = 3 ∧ q < m) ∨ (red = 4 ∧ m < q)
instance (red : Int) (q m : Rat) : Decidable (Better red q m) := inferInstanceAs (Decidable (_ ∨ _))
def upd (red : Int) : Option Rat → Rat → Option Rat
  | none, q => some q
  | some m, q => if Better red q m then some q else some m
/-- The least or greatest number. -/
def bst (red : Int) (l : List Rat) : Option Rat := l.foldl (upd red) none
theorem bst_snoc (red : Int) (l : List Rat) (q : Rat) : bst red (l ++ [q]) = upd red (bst red l) q := by unfold bst; rw [List.foldl_append]; rfl
theorem bst_from {red : Int} (hr : red = 3 ∨ red = 4) : ∀ (l : List Rat) (m0 : Rat), ∃ m, l.foldl (upd red) (some m0) = some m ∧ (m = m0 ∨ m ∈ l) ∧ ¬ Better red m0 m ∧ ∀ q ∈ l, ¬ Better red q m
  | [], m0 => ⟨m0, rfl, .inl rfl, by unfold Better; grind, fun q h => by cases h⟩
  | q :: l, m0 => by
    by_cases hb : Better red q m0
    · obtain ⟨m, h1, h2, h3, h4⟩ := bst_from hr l q
      refine ⟨m, ?_, ?_, ?_, ?_⟩
      · show l.foldl (upd red) (upd red (some m0) q) = _
        rw [show upd red (some m0) q = some q from if_pos hb]; exact h1
      · rcases h2 with h | h
        · exact .inr (by rw [h]; exact List.mem_cons_self)
        · exact .inr (List.mem_cons_of_mem _ h)
      · unfold Better at hb h3 ⊢; grind
      · intro x hx
        rcases List.mem_cons.1 hx with rfl | h
        · exact h3
        · exact h4 x h
    · obtain ⟨m, h1, h2, h3, h4⟩ := bst_from hr l m0
      refine ⟨m, ?_, ?_, h3, ?_⟩
      · show l.foldl (upd red) (upd red (some m0) q) = _
        rw [show upd red (some m0) q = some m0 from if_neg hb]; exact h1
      · rcases h2 with h | h
        · exact .inl h
        · exact .inr (List.mem_cons_of_mem _ h)
      · intro x hx
        rcases List.mem_cons.1 hx with rfl | h
        · unfold Better at hb h3 ⊢; grind
        · exact h4 x h
theorem bst_some {red : Int} (hr : red = 3 ∨ red = 4) {l : List Rat} (h : l ≠ []) : ∃ m, bst red l = some m ∧ m ∈ l ∧ ∀ q ∈ l, ¬ Better red q m := by
  match l, h with
  | q :: l, _ =>
    obtain ⟨m, h1, h2, h3, h4⟩ := bst_from hr l q
    refine ⟨m, h1, ?_, ?_⟩
    · rcases h2 with h | h
      · rw [h]; exact List.mem_cons_self
      · exact List.mem_cons_of_mem _ h
    · intro x hx
      rcases List.mem_cons.1 hx with rfl | h
      · exact h3
      · exact h4 x h
theorem bst_eq {red : Int} (hr : red = 3 ∨ red = 4) {l : List Rat} {m : Rat} (h : m ∈ l) (hm : ∀ q ∈ l, ¬ Better red q m) : bst red l = some m := by
  obtain ⟨m', h1, h2, h3⟩ := bst_some hr (l := l) (List.ne_nil_of_mem h)
  rw [h1]
  have a1 := h3 m h
  have a2 := hm m' h2
  congr 1
  unfold Better at a1 a2
  grind
theorem bst_nil (red : Int) : bst red [] = none := rfl
theorem bst_none {red : Int} (hr : red = 3 ∨ red = 4) {l : List Rat} (h : bst red l = none) : l = [] := by
  by_cases h0 : l = []
  · exact h0
  · obtain ⟨m, h1, _⟩ := bst_some hr h0
    rw [h] at h1; cases h1
theorem bst_mem {red : Int} (hr : red = 3 ∨ red = 4) {l : List Rat} {m : Rat} (h : bst red l = some m) : m ∈ l := by
  by_cases h0 : l = []
  · rw [h0] at h; cases h
  · obtain ⟨m', h1, h2, _⟩ := bst_some hr h0
    rw [h] at h1; injection h1 with h1; rw [h1]; exact h2
theorem bst_rev {red : Int} (hr : red = 3 ∨ red = 4) (l : List Rat) : bst red l.reverse = bst red l := by
  by_cases h0 : l = []
  · rw [h0]; rfl
  · obtain ⟨m, h1, h2, h3⟩ := bst_some hr h0
    rw [h1]
    exact bst_eq hr (List.mem_reverse.2 h2) (fun q hq => h3 q (List.mem_reverse.1 hq))
theorem rsum_rev (l : List Rat) : rsum l.reverse = rsum l := by
  induction l with
  | nil => rfl
  | cons q l ih =>
    rw [List.reverse_cons, rsum_app, ih]
    show rsum l + (q + 0) = q + rsum l
    grind
/-- The text of a reduction. -/
def redT (red : Int) (l : List Rat) : ByteArray :=
  if red = 5 then putT ((l.length : Int) : Rat) else if red = 1 then putT (rsum l) else if l = [] then ⟨#[]⟩
  else if red = 2 then putT (rsum l / ((l.length : Int) : Rat)) else match bst red l with | none => ⟨#[]⟩ | some m => putT m
theorem redT_rev {red : Int} (h1 : 1 ≤ red) (h5 : red ≤ 5) (l : List Rat) : redT red l.reverse = redT red l := by
  unfold redT
  rw [List.length_reverse, rsum_rev]
  by_cases h0 : l = []
  · rw [h0]; rfl
  · have h0' : l.reverse ≠ [] := fun h => h0 (List.reverse_eq_nil_iff.1 h)
    rw [if_neg h0, if_neg h0']
    by_cases e5 : red = 5
    · rw [if_pos e5, if_pos e5]
    · by_cases e1 : red = 1
      · rw [if_neg e5, if_neg e5, if_pos e1, if_pos e1]
      · by_cases e2 : red = 2
        · rw [if_neg e5, if_neg e5, if_neg e1, if_neg e1, if_pos e2, if_pos e2]
        · rw [if_neg e5, if_neg e5, if_neg e1, if_neg e1, if_neg e2, if_neg e2, bst_rev (by omega)]
/-- What is said of the reduction of texts: a text, and the error. -/
noncomputable def redR (L : List ByteArray) (red : Int) : ByteArray × Int := if (∀ s ∈ L, valB s = true) ∧ 1 ≤ red ∧ red ≤ 5 then (redT red (numsT L), 0) else (⟨#[]⟩, 2)
theorem redR_rev (L : List ByteArray) (red : Int) : redR L.reverse red = redR L red := by
  unfold redR
  have e : (∀ s ∈ L.reverse, valB s = true) ↔ (∀ s ∈ L, valB s = true) := ⟨fun h s hs => h s (List.mem_reverse.2 hs), fun h s hs => h s (List.mem_reverse.1 hs)⟩
  by_cases h : (∀ s ∈ L, valB s = true) ∧ 1 ≤ red ∧ red ≤ 5
  · rw [if_pos h, if_pos ⟨e.2 h.1, h.2⟩, numsT_rev, redT_rev h.2.1 h.2.2]
  · rw [if_neg h, if_neg (fun h' => h ⟨e.1 h'.1, h'.2⟩)]
end Go.Proofs.YtgnffedncjjkfaaGreatDoor

namespace Go.Proofs.YtgnffedncjjkfaaGreatDoor
open Go.RowKit Ar

theorem lessQ (p q : Rat) : sgQ (p - q) < 0 ↔ p < q := by unfold sgQ; split <;> (try split) <;> grind
theorem moreQ (p q : Rat) : 0 < sgQ (p - q) ↔ q < p := by unfold sgQ; split <;> (try split) <;> grind

set_option maxRecDepth 100000 in
set_option maxHeartbeats 1600000 in
theorem fcmp_any (p q : Rat) (v u : Value) (w : World) (h : IsF w w.heap.size v p) (h' : IsF w w.heap.size u q) (hl : sz p ≤ 100000000000) (hl' : sz q ≤ 100000000000) :
    Calls Tryz.prog 130 #[v, u] w fun e w' => Below w.heap.size w w' ∧ e = .returned (.int .i64 (sgQ (p - q))) := by
  obtain ⟨s1, A1, l1, c1, A2, l2, c2, rfl⟩ := h.form
  obtain ⟨s2, A3, l3, c3, A4, l4, c4, rfl⟩ := h'.form
  go_enter Tryz.func130, Tryz.ntmps130
  go_wp2_with fail
  have hb0 : Below w.heap.size w ((w.alloc (.cells #[.bool s1, .slice A1 l1 c1, .slice A2 l2 c2] 120)).alloc (.cells #[.bool s2, .slice A3 l3 c3, .slice A4 l4 c4] 120)) := (below_alloc w _).alloc (by simp) _
  refine (fsub_any p q _ _ _ (h.next hb0) (h'.next hb0) (by omega) (by omega)).mono ?_
  rintro e w1 ⟨hb1, x1, rfl, hx1⟩
  have hB1 := hb0.trans (hb1.mono hb0.size)
  go_wp2_with fail
  refine (fsign_any (p - q) _ _ hx1).mono ?_
  rintro e w2 ⟨hb2, rfl⟩
  go_wp2
  go_ret
  exact ⟨hB1.trans (hb2.mono hB1.size), rfl⟩
set_option maxRecDepth 100000 in
set_option maxHeartbeats 3200000 in
theorem ftext_any (p : Rat) (v : Value) (w : World) (h : IsF w w.heap.size v p) (hl : sz p ≤ 100000000) (her : EnvR w) :
    Calls Tryz.prog 158 #[v] w fun e w' => Below w.heap.size w w' ∧ ∃ ok, e = .returned (.tuple #[.string (putT p), .bool ok]) := by
  have hh := h
  obtain ⟨N1, D1, rfl, hN1, hD1⟩ := h
  obtain ⟨A1, l1, c1, rfl⟩ := hN1.form
  obtain ⟨A2, l2, c2, rfl⟩ := hD1.form
  have hln := sz_nm p
  have hld := sz_dn p
  obtain ⟨X, hX⟩ : ∃ X : ByteArray, X = ⟨(Lib.decDigits (nm p)).toArray⟩ := ⟨_, rfl⟩
  obtain ⟨Y, hY⟩ : ∃ Y : ByteArray, Y = ⟨(Lib.decDigits (dn p)).toArray⟩ := ⟨_, rfl⟩
  have hXs : X.size = (Lib.decDigits (nm p)).length := by rw [hX, mk_size']
  have hYs : Y.size = (Lib.decDigits (dn p)).length := by rw [hY, mk_size']
  have hB0 := below_alloc w (.cells #[.bool (sg p), .slice A1 l1 c1, .slice A2 l2 c2] 120)
  have k0 := Bk.new w 120 #[.bool (sg p), .slice A1 l1 c1, .slice A2 l2 c2]
  have SN := Lib.hid (fun W (hW : Below w.heap.size w W) => show Calls Tryz.prog 189 #[.slice A1 l1 c1] W fun e w' => Below W.heap.size W w' ∧ e = .returned (.string X) from by
    rw [hX]; exact nstr_any (nm p) _ W (hN1.next hW) (by omega) (her.next hW))
  have SD := Lib.hid (fun W (hW : Below w.heap.size w W) => show Calls Tryz.prog 189 #[.slice A2 l2 c2] W fun e w' => Below W.heap.size W w' ∧ e = .returned (.string Y) from by
    rw [hY]; exact nstr_any (dn p) _ W (hD1.next hW) (by omega) (her.next hW))
  have LG := Lib.hid (fun W (hW : Below w.heap.size w W) => flong_any p _ W (hh.next hW) (by omega) (her.next hW))
  have HP1 : Hid (X.size ≤ 40 ∧ Y.size ≤ 40 → putT p = ⟨(ratText p).toArray⟩) := fun h => if_pos ⟨by rw [← hXs]; exact h.1, by rw [← hYs]; exact h.2⟩
  have HP0 : Hid (¬ (X.size ≤ 40 ∧ Y.size ≤ 40) → putT p = ⟨#[]⟩) := fun h => if_neg fun h' => h ⟨by rw [hXs]; exact h'.1, by rw [hYs]; exact h'.2⟩
  clear hX hY hXs hYs hN1 hD1 hh her
  generalize putT p = R at *
  generalize (⟨(ratText p).toArray⟩ : ByteArray) = R1 at *
  generalize sg p = s at *
  go_enter Tryz.func158, Tryz.ntmps158
  go_wp2_with fail
  generalize w.alloc (.cells #[.bool s, .slice A1 l1 c1, .slice A2 l2 c2] 120) = W0 at *
  obtain ⟨d0, d1, d2⟩ := bk3 k0
  go_wp2_with fail
  refine (SN.out W0 hB0).mono ?_
  rintro e w1 ⟨hb1, rfl⟩
  have k1 := k0.below hb1 k0.lt
  have hB1 := hB0.trans (hb1.mono hB0.size)
  clear d0 d1 d2 k0 hB0 hb1 SN
  obtain ⟨d0, d1, d2⟩ := bk3 k1
  by_cases hx : X.size ≤ 40
  · have e1 : ¬ (40 : Int) < (X.size : Int) := by omega
    go_wp2_with fail
    refine (SD.out w1 hB1).mono ?_
    rintro e w2 ⟨hb2, rfl⟩
    have k2 := k1.below hb2 k1.lt
    have hB2 := hB1.trans (hb2.mono hB1.size)
    clear d0 d1 d2 k1 hB1 hb2 SD
    obtain ⟨d0, d1, d2⟩ := bk3 k2
    by_cases hy : Y.size ≤ 40
    · have e2 : ¬ (40 : Int) < (Y.size : Int) := by omega
      have hR := HP1.out ⟨hx, hy⟩
      subst hR
      go_wp2_with fail
      refine (LG.out w2 hB2).mono ?_
      rintro e w3 ⟨hb3, rfl⟩
      go_wp2
      go_ret2
      exact ⟨hB2.trans (hb3.mono hB2.size), _, rfl⟩
    · have e2 : (40 : Int) < (Y.size : Int) := by omega
      have hR := HP0.out (fun h => hy h.2)
      subst hR
      go_wp2
      go_ret2
      exact ⟨hB2, _, rfl⟩
  · have e1 : (40 : Int) < (X.size : Int) := by omega
    have hR := HP0.out (fun h => hx h.1)
    subst hR
    go_wp2
    go_ret2
    exact ⟨hB1, _, rfl⟩
set_option maxRecDepth 100000 in
set_option maxHeartbeats 3200000 in
theorem fval_any (p : Rat) (v : Value) (w : World) (h : IsF w w.heap.size v p) (hl : sz p ≤ 100000000) (her : EnvR w) :
    Calls Tryz.prog 126 #[v] w fun e w' => Below w.heap.size w w' ∧ e = .returned (.string (putT p)) := by
  obtain ⟨s1, A1, l1, c1, A2, l2, c2, rfl⟩ := h.form
  have hB0 := below_alloc w (.cells #[.bool s1, .slice A1 l1 c1, .slice A2 l2 c2] 120)
  have TX := Lib.hid (ftext_any p _ _ (h.next hB0) hl (her.next hB0))
  clear h her
  generalize putT p = R at *
  go_enter Tryz.func126, Tryz.ntmps126
  go_wp2_with fail
  refine TX.out.mono ?_
  rintro e w1 ⟨hb1, ok, rfl⟩
  go_wp2
  go_ret
  exact ⟨hB0.trans (hb1.mono hB0.size), rfl⟩
theorem IsFs.at_ {w : World} {B n c : Nat} {A : Option Addr} {l : List Rat} (h : IsFs w B (.slice A n c) l) {k : Nat} {q : Rat} (hq : l[k]? = some q) : ∃ ad t A' l' c' A'' l'' c'', A = some ad ∧ ad.block < B ∧ Thr w (ad.add (k * 3)) ⟨t, .slice A' l' c', .slice A'' l'' c''⟩ ∧ IsF w B (.agg #[.bool t, .slice A' l' c', .slice A'' l'' c'']) q := by
  obtain ⟨A', c', S, e, h1, h2, h3, h4⟩ := h
  simp only [Value.slice.injEq] at e
  obtain ⟨rfl, -, -⟩ := e
  obtain ⟨s, k1, k2⟩ := h4 k q hq
  obtain ⟨ad, e, hb, ht⟩ := h3.fracAt k1
  obtain ⟨t, A1, l1, c1, A2, l2, c2, rfl⟩ := k2.form
  exact ⟨ad, t, A1, l1, c1, A2, l2, c2, e, hb, ht, k2⟩
/-- A number of the program in a block. -/
def FAt (w : World) (b : Nat) (q : Rat) : Prop := ∃ s A l c A' l' c', Bk w b 120 #[.bool s, .slice A l c, .slice A' l' c'] ∧ IsF w w.heap.size (.agg #[.bool s, .slice A l c, .slice A' l' c']) q
theorem FAt.next {w w' : World} {b : Nat} {q : Rat} (h : FAt w b q) (hb : Below w.heap.size w w') : FAt w' b q := by
  obtain ⟨s, A, l, c, A', l', c', h1, h2⟩ := h
  exact ⟨s, A, l, c, A', l', c', h1.below hb h1.lt, h2.next hb⟩
theorem FAt.lt {w : World} {b : Nat} {q : Rat} (h : FAt w b q) : b < w.heap.size := by
  obtain ⟨s, A, l, c, A', l', c', h1, h2⟩ := h
  exact h1.lt
end Go.Proofs.YtgnffedncjjkfaaGreatDoor

namespace Go.Proofs.YtgnffedncjjkfaaGreatDoor
open Go.RowKit Ar

set_option maxRecDepth 100000 in
set_option maxHeartbeats 6400000 in
theorem minf_any (l : List Rat) (v : Value) (w : World) (h : IsFs w w.heap.size v l) (h0 : l ≠ []) (hl : l.length ≤ 10000) (hz : ∀ q ∈ l, sz q ≤ 1000000) :
    Calls Tryz.prog 129 #[v, .func (.func 130) #[] #[]] w fun e w' => Below w.heap.size w w' ∧ ∃ v m, e = .returned v ∧ bst 3 l = some m ∧ IsF w' w'.heap.size v m := by
  obtain ⟨A, c, rfl, hc⟩ := h.form
  have hpos : 0 < l.length := List.length_pos_iff.2 h0
  have hget : ∀ k, k < l.length → ∃ q, l[k]? = some q := fun k hk => ⟨l[k], List.getElem?_eq_getElem hk⟩
  obtain ⟨q0, hq0⟩ := hget 0 hpos
  obtain ⟨ad, t, A1, l1, c1, A2, l2, c2, rfl, hab, ht, hx⟩ := h.at_ hq0
  obtain ⟨t0, t1, t2⟩ := ht
  rw [Nat.zero_mul] at t0 t1 t2
  have ea : ad.add 0 = ad := if_pos rfl
  rw [ea] at t0 t1 t2
  have HAT := Lib.hid (fun k (hk : k < l.length) => show ∃ q t A' l' c' A'' l'' c'', l[k]? = some q ∧ sz q ≤ 1000000 ∧ Thr w (ad.add (k * 3)) ⟨t, .slice A' l' c', .slice A'' l'' c''⟩ ∧ IsF w w.heap.size (.agg #[.bool t, .slice A' l' c', .slice A'' l'' c'']) q from by
    obtain ⟨q, hq⟩ := hget k hk
    obtain ⟨ad', t, A1, l1, c1, A2, l2, c2, e, hab, ht, hx⟩ := h.at_ hq
    injection e with e
    subst e
    exact ⟨q, t, A1, l1, c1, A2, l2, c2, hq, hz q (List.mem_of_getElem? hq), ht, hx⟩)
  have HMS := Lib.hid (fun m (k : Nat) (h : bst 3 (l.take k) = some m) => hz m (List.mem_of_mem_take (bst_mem (by decide) h)))
  have H1 : Hid (bst 3 (l.take 1) = some q0) := by
    show _ = _
    rw [show l.take 1 = [q0] by rw [List.take_add_one, hq0]; rfl]
    rfl
  obtain ⟨n, hn⟩ : ∃ n, n = l.length := ⟨_, rfl⟩
  rw [← hn] at hl hc hpos HAT ⊢
  have HN := Lib.hid hn
  have hz0 := hz q0 (List.mem_of_getElem? hq0)
  clear hn h hget hz hq0 h0
  have hBa := below_alloc w (.cells #[.bool false, .slice none 0 0, .slice none 0 0] 120)
  have ka := Bk.new w 120 #[Value.bool false, .slice none 0 0, .slice none 0 0]
  have T0 := (hBa.cell (p := ad) hab).trans (by simpa using t0)
  have T1 := (hBa.cell (p := ⟨ad.block, ad.off + 1, none⟩) hab).trans (by simpa using t1)
  have T2 := (hBa.cell (p := ⟨ad.block, ad.off + 2, none⟩) hab).trans (by simpa using t2)
  have hxa := hx.next hBa
  have hsa : (w.alloc (.cells #[.bool false, .slice none 0 0, .slice none 0 0] 120)).heap.size = w.heap.size + 1 := World.size_alloc _ _
  clear t0 t1 t2 hx
  go_enter Tryz.func129, Tryz.ntmps129
  go_wp2_with fail
  generalize w.alloc (.cells #[.bool false, .slice none 0 0, .slice none 0 0] 120) = Wa at *
  have HSA := Lib.hid hsa
  clear hsa
  go_wp2_with fail
  have hBb := below_alloc Wa (.cells #[.bool t, .slice A1 l1 c1, .slice A2 l2 c2] 120)
  have hB0 := hBa.trans (hBb.mono hBa.size)
  have kb := ka.alloc (.cells #[.bool t, .slice A1 l1 c1, .slice A2 l2 c2] 120)
  have hfa : FAt (Wa.alloc (.cells #[.bool t, .slice A1 l1 c1, .slice A2 l2 c2] 120)) Wa.heap.size q0 := ⟨_, _, _, _, _, _, _, Bk.new Wa _ _, hxa.next hBb⟩
  rw [HSA.out] at hfa
  have hne : w.heap.size + 1 ≠ w.heap.size := by omega
  have hge : w.heap.size ≤ w.heap.size + 1 := by omega
  generalize Wa.alloc (.cells #[.bool t, .slice A1 l1 c1, .slice A2 l2 c2] 120) = Wb at *
  clear T0 T1 T2 hxa hBa ka hBb HSA
  go_loopw [6] (fun i wr => ∃ (k : Nat) (m : Rat), 1 ≤ k ∧ k ≤ n ∧ i = .int .i64 k ∧ bst 3 (l.take k) = some m ∧ FAt wr (w.heap.size + 1) m ∧ Bk wr w.heap.size 120 #[Value.bool false, .slice none 0 0, .slice none 0 0] ∧ Below w.heap.size w wr) (fun i _ => n - (intOf i).toNat)
  case atStart => exact ⟨1, q0, Nat.le_refl _, by omega, rfl, H1.out, hfa, kb, hB0⟩
  case round =>
    clear hfa kb hB0
    obtain ⟨k, m, hk1, hk, rfl, hbm, hfa, kb, hB0⟩ := hrel
    have HBM := Lib.hid hbm
    have hmz := HMS.out m k hbm
    clear hbm
    obtain ⟨s, B1, j1, e1, B2, j2, e2, kf, hm⟩ := hfa
    by_cases hlt : k < n
    · obtain ⟨q, t', A1, l1, c1, A2, l2, c2, hq, hqz, ht, hx⟩ := HAT.out k hlt
      obtain ⟨t0, t1, t2⟩ := ht
      have T0 := (hB0.cell (p := ad.add (k * 3)) (by rw [addr_block]; exact hab)).trans t0
      have T1 := (hB0.cell (p := ⟨(ad.add (k * 3)).block, (ad.add (k * 3)).off + 1, none⟩) (by show (ad.add (k * 3)).block < _; rw [addr_block]; exact hab)).trans t1
      have T2 := (hB0.cell (p := ⟨(ad.add (k * 3)).block, (ad.add (k * 3)).off + 2, none⟩) (by show (ad.add (k * 3)).block < _; rw [addr_block]; exact hab)).trans t2
      have HU : Hid (bst 3 (l.take (k + 1)) = upd 3 (some m) q) := by
        show _ = _
        rw [List.take_add_one, hq, ← HBM.out, ← bst_snoc]; rfl
      have hx' := (hx.below hB0).more hB0.size
      have CM := Lib.hid (fcmp_any q m _ _ _ hx'.drew hm.drew (by omega) (by omega))
      have HC := Lib.hid (lessQ q m)
      obtain ⟨d0, d1, d2⟩ := bk3 kf
      have ww : IntKind.i64.wrap ((k : Int) + 1) = ((k + 1 : Nat) : Int) := (IntWalk.i64_in _ (by omega)).trans (by omega)
      clear t0 t1 t2 hx hq hqz HBM
      go_wp2_with fail
      refine wp_region_held_drew (S := fun Y => (Y.cell? (ad.add (k * 3)) = some (.bool t') ∧ Y.cell? ⟨(ad.add (k * 3)).block, (ad.add (k * 3)).off + 1, none⟩ = some (.slice A1 l1 c1) ∧ Y.cell? ⟨(ad.add (k * 3)).block, (ad.add (k * 3)).off + 2, none⟩ = some (.slice A2 l2 c2)) ∧ Y.cell? ⟨w.heap.size + 1, 0, none⟩ = some (.bool s) ∧ Y.cell? ⟨w.heap.size + 1, 1, none⟩ = some (.slice B1 j1 e1) ∧ Y.cell? ⟨w.heap.size + 1, 2, none⟩ = some (.slice B2 j2 e2)) (by kernel_rfl) ⟨⟨T0, T1, T2⟩, d0, d1, d2⟩ (fun hS => ?_)
      clear T0 T1 T2 d0 d1 d2
      have Bd := hB0.drew
      have kbd := kb.drew
      have kfd := kf.drew
      have hmd := hm.drew
      have hxd := hx'.drew
      clear hB0 kb kf hm hx'
      generalize wr.drew = wd at *
      refine takeA (i := 0) (v := ?_) rfl (by kernel_rfl) (by kernel_rfl) (by kernel_rfl) (fun _ _ _ h => h) (by rfl) (by assumption) ?_ ?_
      rotate_left
      · intro w hSw; (try dsimp only at hSw); go_simp <;> with_reducible rfl
      try simp only [Act.put, List.setIfInBounds_toArray, List.set_cons_zero, List.set_cons_succ]
      refine takeA (i := 1) (v := ?_) rfl (by kernel_rfl) (by kernel_rfl) (by kernel_rfl) (fun _ _ _ h => h) (by rfl) (by assumption) ?_ ?_
      rotate_left
      · intro w hSw; (try dsimp only at hSw); go_simp <;> with_reducible rfl
      try simp only [Act.put, List.setIfInBounds_toArray, List.set_cons_zero, List.set_cons_succ]
      refine takeA (i := 2) (v := ?_) rfl (by kernel_rfl) (by kernel_rfl) (by kernel_rfl) (fun _ _ _ h => h) (by rfl) (by assumption) ?_ ?_
      rotate_left
      · intro w hSw; (try dsimp only at hSw); go_simp <;> with_reducible rfl
      try simp only [Act.put, List.setIfInBounds_toArray, List.set_cons_zero, List.set_cons_succ]
      refine takeA (i := 3) (v := ?_) rfl (by kernel_rfl) (by kernel_rfl) (by kernel_rfl) (fun _ _ _ h => h) (by rfl) (by assumption) ?_ ?_
      rotate_left
      · intro w hSw; (try dsimp only at hSw); go_simp <;> with_reducible rfl
      try simp only [Act.put, List.setIfInBounds_toArray, List.set_cons_zero, List.set_cons_succ]
      refine takeA (i := 4) (v := ?_) rfl (by kernel_rfl) (by kernel_rfl) (by kernel_rfl) (fun _ _ _ h => h) (by rfl) (by assumption) ?_ ?_
      rotate_left
      · intro w hSw; (try dsimp only at hSw); go_simp <;> with_reducible rfl
      try simp only [Act.put, List.setIfInBounds_toArray, List.set_cons_zero, List.set_cons_succ]
      refine takeA (i := 5) (v := ?_) rfl (by kernel_rfl) (by kernel_rfl) (by kernel_rfl) (fun _ _ _ h => h) (by rfl) (by assumption) ?_ ?_
      rotate_left
      · intro w hSw; (try dsimp only at hSw); go_simp <;> with_reducible rfl
      try simp only [Act.put, List.setIfInBounds_toArray, List.set_cons_zero, List.set_cons_succ]
      refine stepA (i := 6) rfl (by kernel_rfl) (fun K0 hK0 => ?_)
      go_simp
      refine CM.out.mono ?_
      rintro e w6 ⟨hb6, rfl⟩
      have B6 := Bd.trans (hb6.mono Bd.size)
      have kb6 := kbd.below hb6 kbd.lt
      have kf6 := kfd.below hb6 kfd.lt
      have hm6 := hmd.next hb6
      have hx6 := hxd.next hb6
      obtain ⟨⟨s0, s1, s2⟩, s3, s4, s5⟩ := hS
      obtain ⟨d0, d1, d2⟩ := bk3 kf6
      have hadb : (ad.add (k * 3)).block < wd.heap.size := by rw [addr_block]; have := Bd.size; omega
      have T0 := (hb6.cell (p := ad.add (k * 3)) hadb).trans s0
      have T1 := (hb6.cell (p := ⟨(ad.add (k * 3)).block, (ad.add (k * 3)).off + 1, none⟩) hadb).trans s1
      have T2 := (hb6.cell (p := ⟨(ad.add (k * 3)).block, (ad.add (k * 3)).off + 2, none⟩) hadb).trans s2
      dsimp only
      refine hK0.out _ _ ⟨⟨T0, T1, T2⟩, d0, d1, d2⟩ (fun hS6 => ?_)
      clear hK0 K0 hb6 Bd kbd kfd hmd hxd CM s0 s1 s2 s3 s4 s5 hadb hS6
      try simp only [Act.put, List.setIfInBounds_toArray, List.set_cons_zero, List.set_cons_succ]
      generalize sgQ (q - m) = cc at *
      have hS6 := And.intro (And.intro T0 (And.intro T1 T2)) (And.intro d0 (And.intro d1 d2))
      by_cases hcc : cc < 0
      · skip
        refine takeA (i := 7) (v := ?_) rfl (by kernel_rfl) (by kernel_rfl) (by kernel_rfl) (fun _ _ _ h => h) (by rfl) (by assumption) ?_ ?_
        rotate_left
        · intro w hSw; (try dsimp only at hSw); go_simp <;> with_reducible rfl
        try simp only [Act.put, List.setIfInBounds_toArray, List.set_cons_zero, List.set_cons_succ]
        refine wpAnyH_done (by kernel_rfl) ?_ _
        have HV : Hid (bst 3 (l.take (k + 1)) = some q) := by
          show _ = _
          rw [HU.out]; exact if_pos (.inl ⟨rfl, HC.out.1 hcc⟩)
        have hE := (hx6.set3 kf6 (.bool t') (.slice A1 l1 c1) (.slice A2 l2 c2))
        have f0 := kf6.frozen 0
        have f1 := kf6.frozen 1
        have f2 := kf6.frozen 2
        clear HU HC hS6
        go_wp2
        have hB7 := set3_below (x := .bool t') (y := .slice A1 l1 c1) (z := .slice A2 l2 c2) B6 hge
        have kb7 := bk_far3 (b' := w.heap.size + 1) (x := .bool t') (y := .slice A1 l1 c1) (z := .slice A2 l2 c2) kb6 (Ne.symm hne)
        have kf7 := set3_bk (x := .bool t') (y := .slice A1 l1 c1) (z := .slice A2 l2 c2) kf6
        have hE7 : IsF (set3 w6 (w.heap.size + 1) (.bool t') (.slice A1 l1 c1) (.slice A2 l2 c2)) (set3 w6 (w.heap.size + 1) (.bool t') (.slice A1 l1 c1) (.slice A2 l2 c2)).heap.size (.agg #[.bool t', .slice A1 l1 c1, .slice A2 l2 c2]) q := hE.more (by rw [set3_size]; exact Nat.le_refl _)
        go_roundw
        case rel => exact ⟨k + 1, q, by omega, by omega, by go_num, HV.out, ⟨_, _, _, _, _, _, _, kf7, hE7⟩, kb7, hB7⟩
        case measure => simp [intOf]; omega
      · skip
        refine takeA (i := 7) (v := ?_) rfl (by kernel_rfl) (by kernel_rfl) (by kernel_rfl) (fun _ _ _ h => h) (by rfl) (by assumption) ?_ ?_
        rotate_left
        · intro w hSw; (try dsimp only at hSw); go_simp <;> with_reducible rfl
        try simp only [Act.put, List.setIfInBounds_toArray, List.set_cons_zero, List.set_cons_succ]
        refine wpAnyH_done (by kernel_rfl) ?_ _
        have HV : Hid (bst 3 (l.take (k + 1)) = some m) := by
          show _ = _
          rw [HU.out]; exact if_neg (by unfold Better; intro h; rcases h with h | h; all_goals first | exact absurd h.1 (by decide) | exact hcc (HC.out.2 h.2))
        clear HU HC hS6 T0 T1 T2 hx6
        go_wp2
        go_roundw
        case rel => exact ⟨k + 1, m, by omega, by omega, by go_num, HV.out, ⟨_, _, _, _, _, _, _, kf6, hm6⟩, kb6, B6⟩
        case measure => simp [intOf]; omega
    · obtain rfl : k = n := by omega
      have HZ : Hid (bst 3 l = some m) := by
        show _ = _
        have := HBM.out
        rwa [List.take_of_length_le (by rw [← HN.out]; exact Nat.le_refl _)] at this
      obtain ⟨d0, d1, d2⟩ := bk3 kf
      obtain ⟨z0, z1, z2⟩ := bk3 kb
      have f0 := kb.frozen 0
      have f1 := kb.frozen 1
      have f2 := kb.frozen 2
      have hE := hm.set3 kb (.bool s) (.slice B1 j1 e1) (.slice B2 j2 e2)
      clear HAT HMS H1
      go_wp2
      refine bodyPost_ret (v := .agg #[.bool s, .slice B1 j1 e1, .slice B2 j2 e2]) (by simp [results, Tryz.results129, go_sem, z0, z1, z2]) rfl ?_
      exact ⟨set3_below hB0 (Nat.le_refl _), _, m, rfl, HZ.out, hE.more (by rw [show (World.setCell _ _ _) = set3 wr w.heap.size (.bool s) (.slice B1 j1 e1) (.slice B2 j2 e2) from rfl, set3_size]; exact Nat.le_refl _)⟩

set_option maxRecDepth 100000 in
set_option maxHeartbeats 6400000 in
theorem maxf_any (l : List Rat) (v : Value) (w : World) (h : IsFs w w.heap.size v l) (h0 : l ≠ []) (hl : l.length ≤ 10000) (hz : ∀ q ∈ l, sz q ≤ 1000000) :
    Calls Tryz.prog 131 #[v, .func (.func 130) #[] #[]] w fun e w' => Below w.heap.size w w' ∧ ∃ v m, e = .returned v ∧ bst 4 l = some m ∧ IsF w' w'.heap.size v m := by
  obtain ⟨A, c, rfl, hc⟩ := h.form
  have hpos : 0 < l.length := List.length_pos_iff.2 h0
  have hget : ∀ k, k < l.length → ∃ q, l[k]? = some q := fun k hk => ⟨l[k], List.getElem?_eq_getElem hk⟩
  obtain ⟨q0, hq0⟩ := hget 0 hpos
  obtain ⟨ad, t, A1, l1, c1, A2, l2, c2, rfl, hab, ht, hx⟩ := h.at_ hq0
  obtain ⟨t0, t1, t2⟩ := ht
  rw [Nat.zero_mul] at t0 t1 t2
  have ea : ad.add 0 = ad := if_pos rfl
  rw [ea] at t0 t1 t2
  have HAT := Lib.hid (fun k (hk : k < l.length) => show ∃ q t A' l' c' A'' l'' c'', l[k]? = some q ∧ sz q ≤ 1000000 ∧ Thr w (ad.add (k * 3)) ⟨t, .slice A' l' c', .slice A'' l'' c''⟩ ∧ IsF w w.heap.size (.agg #[.bool t, .slice A' l' c', .slice A'' l'' c'']) q from by
    obtain ⟨q, hq⟩ := hget k hk
    obtain ⟨ad', t, A1, l1, c1, A2, l2, c2, e, hab, ht, hx⟩ := h.at_ hq
    injection e with e
    subst e
    exact ⟨q, t, A1, l1, c1, A2, l2, c2, hq, hz q (List.mem_of_getElem? hq), ht, hx⟩)
  have HMS := Lib.hid (fun m (k : Nat) (h : bst 4 (l.take k) = some m) => hz m (List.mem_of_mem_take (bst_mem (by decide) h)))
  have H1 : Hid (bst 4 (l.take 1) = some q0) := by
    show _ = _
    rw [show l.take 1 = [q0] by rw [List.take_add_one, hq0]; rfl]
    rfl
  obtain ⟨n, hn⟩ : ∃ n, n = l.length := ⟨_, rfl⟩
  rw [← hn] at hl hc hpos HAT ⊢
  have HN := Lib.hid hn
  have hz0 := hz q0 (List.mem_of_getElem? hq0)
  clear hn h hget hz hq0 h0
  have hBa := below_alloc w (.cells #[.bool false, .slice none 0 0, .slice none 0 0] 120)
  have ka := Bk.new w 120 #[Value.bool false, .slice none 0 0, .slice none 0 0]
  have T0 := (hBa.cell (p := ad) hab).trans (by simpa using t0)
  have T1 := (hBa.cell (p := ⟨ad.block, ad.off + 1, none⟩) hab).trans (by simpa using t1)
  have T2 := (hBa.cell (p := ⟨ad.block, ad.off + 2, none⟩) hab).trans (by simpa using t2)
  have hxa := hx.next hBa
  have hsa : (w.alloc (.cells #[.bool false, .slice none 0 0, .slice none 0 0] 120)).heap.size = w.heap.size + 1 := World.size_alloc _ _
  clear t0 t1 t2 hx
  go_enter Tryz.func131, Tryz.ntmps131
  go_wp2_with fail
  generalize w.alloc (.cells #[.bool false, .slice none 0 0, .slice none 0 0] 120) = Wa at *
  have HSA := Lib.hid hsa
  clear hsa
  go_wp2_with fail
  have hBb := below_alloc Wa (.cells #[.bool t, .slice A1 l1 c1, .slice A2 l2 c2] 120)
  have hB0 := hBa.trans (hBb.mono hBa.size)
  have kb := ka.alloc (.cells #[.bool t, .slice A1 l1 c1, .slice A2 l2 c2] 120)
  have hfa : FAt (Wa.alloc (.cells #[.bool t, .slice A1 l1 c1, .slice A2 l2 c2] 120)) Wa.heap.size q0 := ⟨_, _, _, _, _, _, _, Bk.new Wa _ _, hxa.next hBb⟩
  rw [HSA.out] at hfa
  have hne : w.heap.size + 1 ≠ w.heap.size := by omega
  have hge : w.heap.size ≤ w.heap.size + 1 := by omega
  generalize Wa.alloc (.cells #[.bool t, .slice A1 l1 c1, .slice A2 l2 c2] 120) = Wb at *
  clear T0 T1 T2 hxa hBa ka hBb HSA
  go_loopw [6] (fun i wr => ∃ (k : Nat) (m : Rat), 1 ≤ k ∧ k ≤ n ∧ i = .int .i64 k ∧ bst 4 (l.take k) = some m ∧ FAt wr (w.heap.size + 1) m ∧ Bk wr w.heap.size 120 #[Value.bool false, .slice none 0 0, .slice none 0 0] ∧ Below w.heap.size w wr) (fun i _ => n - (intOf i).toNat)
  case atStart => exact ⟨1, q0, Nat.le_refl _, by omega, rfl, H1.out, hfa, kb, hB0⟩
  case round =>
    clear hfa kb hB0
    obtain ⟨k, m, hk1, hk, rfl, hbm, hfa, kb, hB0⟩ := hrel
    have HBM := Lib.hid hbm
    have hmz := HMS.out m k hbm
    clear hbm
    obtain ⟨s, B1, j1, e1, B2, j2, e2, kf, hm⟩ := hfa
    by_cases hlt : k < n
    · obtain ⟨q, t', A1, l1, c1, A2, l2, c2, hq, hqz, ht, hx⟩ := HAT.out k hlt
      obtain ⟨t0, t1, t2⟩ := ht
      have T0 := (hB0.cell (p := ad.add (k * 3)) (by rw [addr_block]; exact hab)).trans t0
      have T1 := (hB0.cell (p := ⟨(ad.add (k * 3)).block, (ad.add (k * 3)).off + 1, none⟩) (by show (ad.add (k * 3)).block < _; rw [addr_block]; exact hab)).trans t1
      have T2 := (hB0.cell (p := ⟨(ad.add (k * 3)).block, (ad.add (k * 3)).off + 2, none⟩) (by show (ad.add (k * 3)).block < _; rw [addr_block]; exact hab)).trans t2
      have HU : Hid (bst 4 (l.take (k + 1)) = upd 4 (some m) q) := by
        show _ = _
        rw [List.take_add_one, hq, ← HBM.out, ← bst_snoc]; rfl
      have hx' := (hx.below hB0).more hB0.size
      have CM := Lib.hid (fcmp_any q m _ _ _ hx'.drew hm.drew (by omega) (by omega))
      have HC := Lib.hid (moreQ q m)
      obtain ⟨d0, d1, d2⟩ := bk3 kf
      have ww : IntKind.i64.wrap ((k : Int) + 1) = ((k + 1 : Nat) : Int) := (IntWalk.i64_in _ (by omega)).trans (by omega)
      clear t0 t1 t2 hx hq hqz HBM
      go_wp2_with fail
      refine wp_region_held_drew (S := fun Y => (Y.cell? (ad.add (k * 3)) = some (.bool t') ∧ Y.cell? ⟨(ad.add (k * 3)).block, (ad.add (k * 3)).off + 1, none⟩ = some (.slice A1 l1 c1) ∧ Y.cell? ⟨(ad.add (k * 3)).block, (ad.add (k * 3)).off + 2, none⟩ = some (.slice A2 l2 c2)) ∧ Y.cell? ⟨w.heap.size + 1, 0, none⟩ = some (.bool s) ∧ Y.cell? ⟨w.heap.size + 1, 1, none⟩ = some (.slice B1 j1 e1) ∧ Y.cell? ⟨w.heap.size + 1, 2, none⟩ = some (.slice B2 j2 e2)) (by kernel_rfl) ⟨⟨T0, T1, T2⟩, d0, d1, d2⟩ (fun hS => ?_)
      clear T0 T1 T2 d0 d1 d2
      have Bd := hB0.drew
      have kbd := kb.drew
      have kfd := kf.drew
      have hmd := hm.drew
      have hxd := hx'.drew
      clear hB0 kb kf hm hx'
      generalize wr.drew = wd at *
      refine takeA (i := 0) (v := ?_) rfl (by kernel_rfl) (by kernel_rfl) (by kernel_rfl) (fun _ _ _ h => h) (by rfl) (by assumption) ?_ ?_
      rotate_left
      · intro w hSw; (try dsimp only at hSw); go_simp <;> with_reducible rfl
      try simp only [Act.put, List.setIfInBounds_toArray, List.set_cons_zero, List.set_cons_succ]
      refine takeA (i := 1) (v := ?_) rfl (by kernel_rfl) (by kernel_rfl) (by kernel_rfl) (fun _ _ _ h => h) (by rfl) (by assumption) ?_ ?_
      rotate_left
      · intro w hSw; (try dsimp only at hSw); go_simp <;> with_reducible rfl
      try simp only [Act.put, List.setIfInBounds_toArray, List.set_cons_zero, List.set_cons_succ]
      refine takeA (i := 2) (v := ?_) rfl (by kernel_rfl) (by kernel_rfl) (by kernel_rfl) (fun _ _ _ h => h) (by rfl) (by assumption) ?_ ?_
      rotate_left
      · intro w hSw; (try dsimp only at hSw); go_simp <;> with_reducible rfl
      try simp only [Act.put, List.setIfInBounds_toArray, List.set_cons_zero, List.set_cons_succ]
      refine takeA (i := 3) (v := ?_) rfl (by kernel_rfl) (by kernel_rfl) (by kernel_rfl) (fun _ _ _ h => h) (by rfl) (by assumption) ?_ ?_
      rotate_left
      · intro w hSw; (try dsimp only at hSw); go_simp <;> with_reducible rfl
      try simp only [Act.put, List.setIfInBounds_toArray, List.set_cons_zero, List.set_cons_succ]
      refine takeA (i := 4) (v := ?_) rfl (by kernel_rfl) (by kernel_rfl) (by kernel_rfl) (fun _ _ _ h => h) (by rfl) (by assumption) ?_ ?_
      rotate_left
      · intro w hSw; (try dsimp only at hSw); go_simp <;> with_reducible rfl
      try simp only [Act.put, List.setIfInBounds_toArray, List.set_cons_zero, List.set_cons_succ]
      refine takeA (i := 5) (v := ?_) rfl (by kernel_rfl) (by kernel_rfl) (by kernel_rfl) (fun _ _ _ h => h) (by rfl) (by assumption) ?_ ?_
      rotate_left
      · intro w hSw; (try dsimp only at hSw); go_simp <;> with_reducible rfl
      try simp only [Act.put, List.setIfInBounds_toArray, List.set_cons_zero, List.set_cons_succ]
      refine stepA (i := 6) rfl (by kernel_rfl) (fun K0 hK0 => ?_)
      go_simp
      refine CM.out.mono ?_
      rintro e w6 ⟨hb6, rfl⟩
      have B6 := Bd.trans (hb6.mono Bd.size)
      have kb6 := kbd.below hb6 kbd.lt
      have kf6 := kfd.below hb6 kfd.lt
      have hm6 := hmd.next hb6
      have hx6 := hxd.next hb6
      obtain ⟨⟨s0, s1, s2⟩, s3, s4, s5⟩ := hS
      obtain ⟨d0, d1, d2⟩ := bk3 kf6
      have hadb : (ad.add (k * 3)).block < wd.heap.size := by rw [addr_block]; have := Bd.size; omega
      have T0 := (hb6.cell (p := ad.add (k * 3)) hadb).trans s0
      have T1 := (hb6.cell (p := ⟨(ad.add (k * 3)).block, (ad.add (k * 3)).off + 1, none⟩) hadb).trans s1
      have T2 := (hb6.cell (p := ⟨(ad.add (k * 3)).block, (ad.add (k * 3)).off + 2, none⟩) hadb).trans s2
      dsimp only
      refine hK0.out _ _ ⟨⟨T0, T1, T2⟩, d0, d1, d2⟩ (fun hS6 => ?_)
      clear hK0 K0 hb6 Bd kbd kfd hmd hxd CM s0 s1 s2 s3 s4 s5 hadb hS6
      try simp only [Act.put, List.setIfInBounds_toArray, List.set_cons_zero, List.set_cons_succ]
      generalize sgQ (q - m) = cc at *
      have hS6 := And.intro (And.intro T0 (And.intro T1 T2)) (And.intro d0 (And.intro d1 d2))
      by_cases hcc : 0 < cc
      · skip
        refine takeA (i := 7) (v := ?_) rfl (by kernel_rfl) (by kernel_rfl) (by kernel_rfl) (fun _ _ _ h => h) (by rfl) (by assumption) ?_ ?_
        rotate_left
        · intro w hSw; (try dsimp only at hSw); go_simp <;> with_reducible rfl
        try simp only [Act.put, List.setIfInBounds_toArray, List.set_cons_zero, List.set_cons_succ]
        refine wpAnyH_done (by kernel_rfl) ?_ _
        have HV : Hid (bst 4 (l.take (k + 1)) = some q) := by
          show _ = _
          rw [HU.out]; exact if_pos (.inr ⟨rfl, HC.out.1 hcc⟩)
        have hE := (hx6.set3 kf6 (.bool t') (.slice A1 l1 c1) (.slice A2 l2 c2))
        have f0 := kf6.frozen 0
        have f1 := kf6.frozen 1
        have f2 := kf6.frozen 2
        clear HU HC hS6
        go_wp2
        have hB7 := set3_below (x := .bool t') (y := .slice A1 l1 c1) (z := .slice A2 l2 c2) B6 hge
        have kb7 := bk_far3 (b' := w.heap.size + 1) (x := .bool t') (y := .slice A1 l1 c1) (z := .slice A2 l2 c2) kb6 (Ne.symm hne)
        have kf7 := set3_bk (x := .bool t') (y := .slice A1 l1 c1) (z := .slice A2 l2 c2) kf6
        have hE7 : IsF (set3 w6 (w.heap.size + 1) (.bool t') (.slice A1 l1 c1) (.slice A2 l2 c2)) (set3 w6 (w.heap.size + 1) (.bool t') (.slice A1 l1 c1) (.slice A2 l2 c2)).heap.size (.agg #[.bool t', .slice A1 l1 c1, .slice A2 l2 c2]) q := hE.more (by rw [set3_size]; exact Nat.le_refl _)
        go_roundw
        case rel => exact ⟨k + 1, q, by omega, by omega, by go_num, HV.out, ⟨_, _, _, _, _, _, _, kf7, hE7⟩, kb7, hB7⟩
        case measure => simp [intOf]; omega
      · skip
        refine takeA (i := 7) (v := ?_) rfl (by kernel_rfl) (by kernel_rfl) (by kernel_rfl) (fun _ _ _ h => h) (by rfl) (by assumption) ?_ ?_
        rotate_left
        · intro w hSw; (try dsimp only at hSw); go_simp <;> with_reducible rfl
        try simp only [Act.put, List.setIfInBounds_toArray, List.set_cons_zero, List.set_cons_succ]
        refine wpAnyH_done (by kernel_rfl) ?_ _
        have HV : Hid (bst 4 (l.take (k + 1)) = some m) := by
          show _ = _
          rw [HU.out]; exact if_neg (by unfold Better; intro h; rcases h with h | h; all_goals first | exact absurd h.1 (by decide) | exact hcc (HC.out.2 h.2))
        clear HU HC hS6 T0 T1 T2 hx6
        go_wp2
        go_roundw
        case rel => exact ⟨k + 1, m, by omega, by omega, by go_num, HV.out, ⟨_, _, _, _, _, _, _, kf6, hm6⟩, kb6, B6⟩
        case measure => simp [intOf]; omega
    · obtain rfl : k = n := by omega
      have HZ : Hid (bst 4 l = some m) := by
        show _ = _
        have := HBM.out
        rwa [List.take_of_length_le (by rw [← HN.out]; exact Nat.le_refl _)] at this
      obtain ⟨d0, d1, d2⟩ := bk3 kf
      obtain ⟨z0, z1, z2⟩ := bk3 kb
      have f0 := kb.frozen 0
      have f1 := kb.frozen 1
      have f2 := kb.frozen 2
      have hE := hm.set3 kb (.bool s) (.slice B1 j1 e1) (.slice B2 j2 e2)
      clear HAT HMS H1
      go_wp2
      refine bodyPost_ret (v := .agg #[.bool s, .slice B1 j1 e1, .slice B2 j2 e2]) (by simp [results, Tryz.results131, go_sem, z0, z1, z2]) rfl ?_
      exact ⟨set3_below hB0 (Nat.le_refl _), _, m, rfl, HZ.out, hE.more (by rw [show (World.setCell _ _ _) = set3 wr w.heap.size (.bool s) (.slice B1 j1 e1) (.slice B2 j2 e2) from rfl, set3_size]; exact Nat.le_refl _)⟩
end Go.Proofs.YtgnffedncjjkfaaGreatDoor

namespace Go.Proofs.YtgnffedncjjkfaaGreatDoor
open Go.RowKit Ar

theorem zfrac_no : ∀ u ∈ (Value.agg #[.bool false, .slice none 0 0, .slice none 0 0]).cells.toList, noInt u := by
  intro u hu k i e
  subst e
  simp [Value.cells] at hu
theorem new_cells3 (w : World) (T : TypeId) (a b c : Value) (j : Nat) (u : Value) (h : [a, b, c][j]? = some u) : (w.alloc (.cells #[a, b, c] T)).cell? ((⟨w.heap.size, 0, none⟩ : Addr).add j) = some u := by
  have k := (Bk.new w T #[a, b, c]).cell (0 + j)
  rw [addr_mk, k]
  simpa using h
theorem reduction_any (red : Int) (w : World) :
    Calls Tryz.prog 97 #[.int .i64 red] w fun e w' => w = w' ∧ e = .returned (.bool (decide (1 ≤ red ∧ red ≤ 5))) := by
  by_cases h1 : 1 ≤ red
  · by_cases h5 : red ≤ 5
    · have e : decide (1 ≤ red ∧ red ≤ 5) = true := decide_eq_true ⟨h1, h5⟩
      rw [e]
      clear e
      go_enter Tryz.func97, Tryz.ntmps97
      go_wp2
      go_ret
      exact ⟨rfl, rfl⟩
    · have e : decide (1 ≤ red ∧ red ≤ 5) = false := decide_eq_false fun h => h5 h.2
      rw [e]
      clear e
      go_enter Tryz.func97, Tryz.ntmps97
      go_wp2
      go_ret
      exact ⟨rfl, rfl⟩
  · have e : decide (1 ≤ red ∧ red ≤ 5) = false := decide_eq_false fun h => h1 h.1
    rw [e]
    clear e
    go_enter Tryz.func97, Tryz.ntmps97
    go_wp2
    go_ret
    exact ⟨rfl, rfl⟩
set_option maxRecDepth 100000 in
set_option maxHeartbeats 12800000 in
theorem reduced_any (L : List ByteArray) (red : Int) (v : Value) (w : World) (h : IsT w w.heap.size v L) (he : Env w) (her : EnvR w) (hL : L.length ≤ 5000) (hL2 : ∀ s ∈ L, s.size ≤ 300) (h1 : 1 ≤ red) (h5 : red ≤ 5) :
    Calls Tryz.prog 98 #[v, .int .i64 red] w fun e w' => Below w.heap.size w w' ∧ e = .returned (.string (redT red (numsT L))) := by
  obtain ⟨A, c, rfl, hc⟩ := h.form
  have hr := h.rd
  have HAT : Hid (∀ k, k < L.length → ∃ s, L[k]? = some s ∧ s.size ≤ 4000000) := fun k hk => ⟨L[k], List.getElem?_eq_getElem hk, by have := hL2 _ (List.getElem_mem hk); omega⟩
  have HLN := Lib.hid (fun k => show (numsT (L.take k)).length ≤ 5000 from by have := numsT_len (L.take k); rw [List.length_take] at this; omega)
  have HSZ := Lib.hid (fun q (hq : q ∈ numsT L) => show sz q ≤ 200 from numsT_sz hq)
  have HCELL := Lib.hid (fun k (hk : k < L.length) s (hs : L[k]? = some s) => show ∃ ad, A = some ad ∧ ad.block < w.heap.size ∧ w.cell? (ad.add k) = some (.string s) from by
    obtain ⟨ad, e, hab, hcx⟩ := hr.str hk
    rw [List.getElem?_eq_getElem hk] at hs
    injection hs with hs
    exact ⟨ad, e, hab, by rw [← hs]; exact hcx⟩)
  obtain ⟨n, hn⟩ : ∃ n, n = L.length := ⟨_, rfl⟩
  rw [← hn] at hL hc HAT HCELL ⊢
  have HN := Lib.hid hn
  clear hn h hr hL2
  obtain ⟨i0, hi0, hz0, hz1, hz2⟩ := info_parts Tryz.frac_info
  go_enter Tryz.func98, Tryz.ntmps98
  go_wp2_with fail
  go_loopw [5, 13] (fun l i wr => ∃ k : Nat, k ≤ n ∧ i = .int .i64 k ∧ OwnFs wr w.heap.size l (numsT (L.take k)) ∧ Below w.heap.size w wr) (fun _ i _ => n - (intOf i).toNat)
  case atStart => exact ⟨0, Nat.zero_le _, rfl, OwnFs.nil _ _, Below.refl _ _⟩
  case round =>
    obtain ⟨k, hk, rfl, hO, hB⟩ := hrel
    by_cases hlt : k < n
    · obtain ⟨s, hs, hss⟩ := HAT.out k hlt
      obtain ⟨ad, rfl, hab, hcx0⟩ := HCELL.out k hlt s hs
      have hcx := (hB.cell (p := ad.add k) (by rw [addr_block]; exact hab)).trans hcx0
      have HTK : Hid (numsT (L.take (k + 1)) = numsT (L.take k) ++ numT s) := by
        show _ = _
        rw [List.take_add_one, hs, ← numsT_snoc]; rfl
      have HO := Lib.hid hO
      have RR := Lib.hid (read_any s wr hss (he.next hB) (numB s) (numB_iff s))
      clear hO hs hcx0
      go_wp2_with fail
      refine RR.out.mono ?_
      rintro e w3 ⟨hb3, gv, rfl, ⟨gb, gA, gn, gc, gA', gn', gc', rfl⟩, hg⟩
      have HG := Lib.hid hg
      have hB3 := hB.trans (hb3.mono hB.size)
      have HO4 := Lib.hid (HO.out.keep hb3)
      have hA3 := below_alloc w3 (.cells #[.bool gb, .slice gA gn gc, .slice gA' gn' gc'] 120)
      have hB4 := hB3.trans (hA3.mono hB3.size)
      have HO5 := Lib.hid (HO4.out.keep hA3)
      have kg := Bk.new w3 120 #[Value.bool gb, .slice gA gn gc, .slice gA' gn' gc']
      have hLn := HLN.out k
      clear hg RR HO hb3 hcx
      cases hnx : numB s
      · have HAR : Hid (numsT (L.take (k + 1)) = numsT (L.take k)) := by
          show _ = _
          rw [HTK.out, show numT s = [] by unfold numT; rw [if_neg (by rw [hnx]; decide)], List.append_nil]
        have HO6 : Hid (OwnFs (w3.alloc (.cells #[.bool gb, .slice gA gn gc, .slice gA' gn' gc'] 120)) w.heap.size u5 (numsT (L.take (k + 1)))) := by
          show OwnFs _ _ _ _
          rw [HAR.out]; exact HO5.out
        clear hnx HG HO4 HO5 HAR HTK kg hA3
        go_wp2
        go_roundw
        case rel => exact ⟨k + 1, by omega, by go_num, HO6.out, hB4⟩
        case measure => simp [intOf]; omega
      · have HAR : Hid (numsT (L.take (k + 1)) = numsT (L.take k) ++ [textRat s.data.toList]) := by
          show _ = _
          rw [HTK.out, show numT s = [textRat s.data.toList] by unfold numT; rw [if_pos hnx]]
        have ksz : (w3.alloc (.cells #[.bool gb, .slice gA gn gc, .slice gA' gn' gc'] 120)).heap.size = w3.heap.size + 1 := by simp
        obtain ⟨w5, hw5⟩ : ∃ x, x = w3.alloc (.cells #[.bool gb, .slice gA gn gc, .slice gA' gn' gc'] 120) := ⟨_, rfl⟩
        rw [← hw5] at kg hA3 hB4 HO5 ksz
        have HW5 := Lib.hid hw5
        have hA5 := below_alloc w5 (.cells #[.bool gb, .slice gA gn gc, .slice gA' gn' gc'] 120)
        have HIX : Hid (IsFx (w5.alloc (.cells #[.bool gb, .slice gA gn gc, .slice gA' gn' gc'] 120)) (w5.alloc (.cells #[.bool gb, .slice gA gn gc, .slice gA' gn' gc'] 120)).heap.size ⟨gb, .slice gA gn gc, .slice gA' gn' gc'⟩ (textRat s.data.toList)) := ((HG.out hnx).next hA3).next hA5
        have hB6 := hB4.trans (hA5.mono hB4.size)
        obtain ⟨S, hS1, hS2, hS3, hS4⟩ := HO5.out.keep hA5
        have HS1 := Lib.hid hS1
        have HS4 := Lib.hid hS4
        have HS2 := Lib.hid hS2
        have HS3 := Lib.hid hS3
        have HB6 := Lib.hid hB6
        have HNC : Hid (∀ (j : Nat) (u : Value), [Value.bool gb, .slice gA gn gc, .slice gA' gn' gc'][j]? = some u → (w5.alloc (.cells #[.bool gb, .slice gA gn gc, .slice gA' gn' gc'] 120)).cell? ((⟨w3.heap.size + 1, 0, none⟩ : Addr).add j) = some u) := fun j u h => by
          rw [← ksz]; exact new_cells3 w5 _ _ _ _ j u h
        have hz5 := hB4.size
        obtain ⟨d0, d1, d2⟩ := bk3 kg
        rw [hw5] at d0 d1 d2
        clear hnx HG HO4 HO5 HTK hA3 hS1 hS4 hA5 kg hS2 hS3 hB6 hw5
        go_wp2_with (at_builtin; rw [← HW5.out]; refine wpL_append_ni rfl (.tmp 23) (.tmp 25) 116 rfl w.heap.size 120 i0 (.agg #[.bool false, .slice none 0 0, .slice none 0 0]) 3 56 Tryz.underlying116 hi0 hz0 hz1 hz2 rfl (by omega) _ (numsT (L.take k)).length (frow S) rfl HS2.out HS3.out zfrac_no ⟨w3.heap.size + 1, 0, none⟩ 1 1 [.bool gb, .slice gA gn gc, .slice gA' gn' gc'] rfl rfl HNC.out (by intro u hu; simp at hu; rcases hu with rfl | rfl | rfl <;> rfl) (by intro u hu k0 i1; simp at hu; rcases hu with rfl | rfl | rfl <;> simp) (by omega) (by unfold maxLen; omega) (by omega) (by simp; omega) ?_; intro v7 w7 hw1 hw2 hw3; have HO7 := Lib.hid (OwnFs.add (s := ⟨gb, .slice gA gn gc, .slice gA' gn' gc'⟩) HS1.out HS3.out HS4.out HIX.out hw1 hw2 hw3); have hB7 : Below w.heap.size w w7 := below_app HB6.out hw2 (by simp; omega) HS2.out (Nat.le_refl _); clear hw1 hw2 hw3 HS2 HS3 HB6)
        have HO8 : Hid (OwnFs w7 w.heap.size v7 (numsT (L.take (k + 1)))) := by
          show OwnFs _ _ _ _
          rw [HAR.out]; exact HO7.out
        clear HO7 HAR d0 d1 d2
        go_roundw
        case rel => exact ⟨k + 1, by omega, by go_num, HO8.out, hB7⟩
        case measure => simp [intOf]; omega
    · obtain rfl : k = n := by omega
      rw [List.take_of_length_le (by rw [← HN.out]; exact Nat.le_refl _)] at hO
      have hln := numsT_len L
      rw [← HN.out] at hln
      obtain ⟨lA, lc, rfl⟩ := hO.form
      have hE := he.next hB
      have hER := her.next hB
      clear HAT HCELL HLN HN he her
      generalize hQL : numsT L = Q at *
      have HQL := Lib.hid hQL
      clear hQL
      have hlq : Q.length ≤ 5000 := by omega
      have SM := Lib.hid (fun W (hW : Below wr.heap.size wr W) => sum_any _ Q _ W rfl (hO.is.next hW) (by omega) (fun q hq => by have := HSZ.out q hq; omega))
      have hs2 : sz (rsum Q) ≤ 10000000 := by
        have := sz_rsum (M := 200) Q (fun q hq => HSZ.out q hq)
        have := Nat.mul_le_mul_right (200 + 1) hlq
        omega
      have VT := Lib.hid (fun q v W (hW : Below wr.heap.size wr W) (h : IsF W W.heap.size v q) (hq : sz q ≤ 100000000) => fval_any q v W h hq (hER.next hW))
      have IN := Lib.hid (fint_any ((Q.length : Nat) : Int) wr (by omega))
      have hsn : sz (((Q.length : Nat) : Int) : Rat) ≤ 1 := sz_small _ (by omega)
      have HOI := Lib.hid hO.is
      obtain ⟨qn, hqn⟩ : ∃ qn, qn = Q.length := ⟨_, rfl⟩
      have HQN := Lib.hid hqn
      rw [← hqn] at hlq SM IN hsn HOI ⊢
      clear hO hE hER hln hqn
      go_wp2_with fail
      refine IN.out.mono ?_
      rintro e w1 ⟨hb1, nv, rfl, hnv⟩
      obtain ⟨nb, nA, nl, nc, nA', nl', nc', rfl⟩ := hnv.form
      have ha := below_alloc w1 (.cells #[.bool nb, .slice nA nl nc, .slice nA' nl' nc'] 120)
      have kn := Bk.new w1 120 #[.bool nb, .slice nA nl nc, .slice nA' nl' nc']
      have hb2 := hb1.trans (ha.mono hb1.size)
      have hn2 := hnv.next ha
      obtain ⟨w2, hw2⟩ : ∃ x, x = w1.alloc (.cells #[.bool nb, .slice nA nl nc, .slice nA' nl' nc'] 120) := ⟨_, rfl⟩
      rw [← hw2] at ha kn hb2 hn2
      have HW2 := Lib.hid hw2
      have hB2 := hB.trans (hb2.mono hB.size)
      clear hnv ha hb1 IN hw2
      rcases (by omega : red = 1 ∨ red = 2 ∨ red = 3 ∨ red = 4 ∨ red = 5) with hr | hr | hr | hr | hr
      · have HR : Hid (redT red Q = putT (rsum Q)) := by show _ = _; rw [hr]; rfl
        have q5 : (red == 5) = false := by rw [hr]; rfl
        have q1 : (red == 1) = true := by rw [hr]; rfl
        clear HOI HSZ hr
        go_wp2_with fail
        rw [← HW2.out]
        clear HW2
        refine (SM.out w2 hb2).mono ?_
        rintro e w3 ⟨hb3, sv, rfl, hsv⟩
        have hb4 := hb2.trans (hb3.mono hb2.size)
        have hB4 := hB2.trans (hb3.mono hB2.size)
        go_wp2_with fail
        refine (VT.out _ _ w3 hb4 hsv (by omega)).mono ?_
        rintro e w4 ⟨hb5, rfl⟩
        go_wp2
        go_ret
        exact ⟨hB4.trans (hb5.mono hB4.size), by rw [HQL.out, HR.out] <;> rfl⟩
      · have q5 : (red == 5) = false := by rw [hr]; rfl
        have q1 : (red == 1) = false := by rw [hr]; rfl
        have q2 : (red == 2) = true := by rw [hr]; rfl
        rcases Nat.eq_zero_or_pos qn with h0 | h0
        · have HQ0 : Q = [] := List.eq_nil_of_length_eq_zero (by rw [← HQN.out]; exact h0)
          have HR : Hid (redT red Q = ⟨#[]⟩) := by show _ = _; rw [hr, HQ0]; rfl
          have z0 : ((qn : Int) == 0) = true := by simp <;> omega
          clear HQ0 HOI HSZ hr
          go_wp2
          go_ret
          exact ⟨HW2.out ▸ hB2, by rw [HQL.out, HR.out] <;> rfl⟩
        · have HQ0 : Q ≠ [] := fun h => by have := HQN.out; rw [h] at this; simp at this; omega
          have HR : Hid (redT red Q = putT (rsum Q / (((qn : Nat) : Int) : Rat))) := by
            show _ = _
            rw [hr, HQN.out]
            unfold redT
            rw [if_neg (by decide), if_neg (by decide), if_neg HQ0, if_pos rfl]
          have z0 : ((qn : Int) == 0) = false := by simp <;> omega
          have hqz : (((qn : Nat) : Int) : Rat) ≠ 0 := fun h => by
            have h' : ((qn : Nat) : Int) = 0 := by exact_mod_cast h
            omega
          have hsd := sz_div (rsum Q) (((qn : Nat) : Int) : Rat) hqz
          clear HQ0 HOI HSZ hr
          go_wp2_with fail
          rw [← HW2.out]
          clear HW2
          obtain ⟨d0, d1, d2⟩ := bk3 kn
          refine wp_region_held_drew (S := fun Y => Y.cell? ⟨w1.heap.size, 0, none⟩ = some (.bool nb) ∧ Y.cell? ⟨w1.heap.size, 1, none⟩ = some (.slice nA nl nc) ∧ Y.cell? ⟨w1.heap.size, 2, none⟩ = some (.slice nA' nl' nc')) (by kernel_rfl) ⟨d0, d1, d2⟩ (fun hS => ?_)
          clear d0 d1 d2
          have kd := kn.drew
          have hbd := hb2.drew
          have hBd := hB2.drew
          have hnd := hn2.drew
          clear kn hb2 hB2 hn2
          generalize w2.drew = wd at *
          refine takeA (i := 0) (v := ?_) rfl (by kernel_rfl) (by kernel_rfl) (by kernel_rfl) (fun _ _ _ h => h) (by rfl) (by assumption) ?_ ?_
          rotate_left
          · intro w hSw; (try dsimp only at hSw); go_simp <;> with_reducible rfl
          try simp only [Act.put, List.setIfInBounds_toArray, List.set_cons_zero, List.set_cons_succ]
          refine takeA (i := 2) (v := ?_) rfl (by kernel_rfl) (by kernel_rfl) (by kernel_rfl) (fun _ _ _ h => h) (by rfl) (by assumption) ?_ ?_
          rotate_left
          · intro w hSw; (try dsimp only at hSw); go_simp <;> with_reducible rfl
          try simp only [Act.put, List.setIfInBounds_toArray, List.set_cons_zero, List.set_cons_succ]
          refine stepA (i := 1) rfl (by kernel_rfl) (fun K0 hK0 => ?_)
          go_simp
          refine (SM.out wd hbd).mono ?_
          rintro e w3 ⟨hb3, sv, rfl, hsv⟩
          have hb4 := hbd.trans (hb3.mono hbd.size)
          have hB4 := hBd.trans (hb3.mono hBd.size)
          have k4 := kd.below hb3 kd.lt
          have hn4 := hnd.next hb3
          obtain ⟨sb, sA, sl, sc, sA', sl', sc', rfl⟩ := hsv.form
          dsimp only
          refine hK0.out _ _ (bk3 k4) (fun hS4 => ?_)
          clear hK0 K0 hb3 hS hbd hBd kd hnd
          try simp only [Act.put, List.setIfInBounds_toArray, List.set_cons_zero, List.set_cons_succ]
          refine stepA (i := 3) rfl (by kernel_rfl) (fun K0 hK0 => ?_)
          go_simp
          refine (fdiv_any _ _ _ _ _ hqz hsv hn4 (by omega) (by omega)).mono ?_
          rintro e w5 ⟨hb5, dv, rfl, hdv⟩
          have hb6 := hb4.trans (hb5.mono hb4.size)
          have hB6 := hB4.trans (hb5.mono hB4.size)
          have k6 := k4.below hb5 k4.lt
          obtain ⟨tb, tA, tl, tc, tA', tl', tc', rfl⟩ := hdv.form
          dsimp only
          refine hK0.out _ _ (bk3 k6) (fun hS6 => ?_)
          clear hK0 K0 hb5 hS4 hb4 hB4 k4 hn4 hsv
          try simp only [Act.put, List.setIfInBounds_toArray, List.set_cons_zero, List.set_cons_succ]
          refine stepA (i := 4) rfl (by kernel_rfl) (fun K0 hK0 => ?_)
          go_simp
          refine (VT.out _ _ w5 hb6 hdv (by omega)).mono ?_
          rintro e w7 ⟨hb7, rfl⟩
          have hB8 := hB6.trans (hb7.mono hB6.size)
          have k8 := k6.below hb7 k6.lt
          dsimp only
          refine hK0.out _ _ (bk3 k8) (fun hS8 => ?_)
          clear hK0 K0 hb7 hS6 hb6 hB6 k6 hdv
          try simp only [Act.put, List.setIfInBounds_toArray, List.set_cons_zero, List.set_cons_succ]
          refine takeA (i := 5) (v := ?_) rfl (by kernel_rfl) (by kernel_rfl) (by kernel_rfl) (fun _ _ _ h => h) (by rfl) (by assumption) ?_ ?_
          rotate_left
          · intro w hSw; (try dsimp only at hSw); go_simp <;> with_reducible rfl
          try simp only [Act.put, List.setIfInBounds_toArray, List.set_cons_zero, List.set_cons_succ]
          refine wpAnyH_done (by kernel_rfl) ?_ _
          go_wp2
          go_ret
          exact ⟨hB8, by rw [HQL.out, HR.out] <;> rfl⟩
      · have q5 : (red == 5) = false := by rw [hr]; rfl
        have q1 : (red == 1) = false := by rw [hr]; rfl
        have q2 : (red == 2) = false := by rw [hr]; rfl
        have q3 : (red == 3) = true := by rw [hr]; rfl
        rcases Nat.eq_zero_or_pos qn with h0 | h0
        · have HQ0 : Q = [] := List.eq_nil_of_length_eq_zero (by rw [← HQN.out]; exact h0)
          have HR : Hid (redT red Q = ⟨#[]⟩) := by show _ = _; rw [hr, HQ0]; rfl
          have z0 : ((qn : Int) == 0) = true := by simp <;> omega
          clear HQ0 HOI HSZ hr
          go_wp2
          go_ret
          exact ⟨HW2.out ▸ hB2, by rw [HQL.out, HR.out] <;> rfl⟩
        · have HQ0 : Q ≠ [] := fun h => by have := HQN.out; rw [h] at this; simp at this; omega
          have HR : Hid (∀ m, bst 3 Q = some m → redT red Q = putT m) := fun m h => by
            rw [hr]
            unfold redT
            rw [if_neg (by decide), if_neg (by decide), if_neg HQ0, if_neg (by decide), h]
          have HM := Lib.hid (minf_any Q _ w2 (HOI.out.next hb2) HQ0 (by rw [← HQN.out]; omega) (fun q hq => by have := HSZ.out q hq; omega))
          have HMS := Lib.hid (fun m (h : bst 3 Q = some m) => HSZ.out m (bst_mem (by decide) h))
          have z0 : ((qn : Int) == 0) = false := by simp <;> omega
          clear HQ0 HOI HSZ hr
          go_wp2_with fail
          rw [← HW2.out]
          clear HW2
          refine HM.out.mono ?_
          rintro e w3 ⟨hb3, sv, m, rfl, hbm, hsv⟩
          have HRm := Lib.hid (HR.out m hbm)
          have hmz := HMS.out m hbm
          have hb4 := hb2.trans (hb3.mono hb2.size)
          have hB4 := hB2.trans (hb3.mono hB2.size)
          clear hbm HR HMS HM
          go_wp2_with fail
          refine (VT.out _ _ w3 hb4 hsv (by omega)).mono ?_
          rintro e w4 ⟨hb5, rfl⟩
          go_wp2
          go_ret
          exact ⟨hB4.trans (hb5.mono hB4.size), by rw [HQL.out, HRm.out] <;> rfl⟩
      · have q5 : (red == 5) = false := by rw [hr]; rfl
        have q1 : (red == 1) = false := by rw [hr]; rfl
        have q2 : (red == 2) = false := by rw [hr]; rfl
        have q3 : (red == 3) = false := by rw [hr]; rfl
        rcases Nat.eq_zero_or_pos qn with h0 | h0
        · have HQ0 : Q = [] := List.eq_nil_of_length_eq_zero (by rw [← HQN.out]; exact h0)
          have HR : Hid (redT red Q = ⟨#[]⟩) := by show _ = _; rw [hr, HQ0]; rfl
          have z0 : ((qn : Int) == 0) = true := by simp <;> omega
          clear HQ0 HOI HSZ hr
          go_wp2
          go_ret
          exact ⟨HW2.out ▸ hB2, by rw [HQL.out, HR.out] <;> rfl⟩
        · have HQ0 : Q ≠ [] := fun h => by have := HQN.out; rw [h] at this; simp at this; omega
          have HR : Hid (∀ m, bst 4 Q = some m → redT red Q = putT m) := fun m h => by
            rw [hr]
            unfold redT
            rw [if_neg (by decide), if_neg (by decide), if_neg HQ0, if_neg (by decide), h]
          have HM := Lib.hid (maxf_any Q _ w2 (HOI.out.next hb2) HQ0 (by rw [← HQN.out]; omega) (fun q hq => by have := HSZ.out q hq; omega))
          have HMS := Lib.hid (fun m (h : bst 4 Q = some m) => HSZ.out m (bst_mem (by decide) h))
          have z0 : ((qn : Int) == 0) = false := by simp <;> omega
          clear HQ0 HOI HSZ hr
          go_wp2_with fail
          rw [← HW2.out]
          clear HW2
          refine HM.out.mono ?_
          rintro e w3 ⟨hb3, sv, m, rfl, hbm, hsv⟩
          have HRm := Lib.hid (HR.out m hbm)
          have hmz := HMS.out m hbm
          have hb4 := hb2.trans (hb3.mono hb2.size)
          have hB4 := hB2.trans (hb3.mono hB2.size)
          clear hbm HR HMS HM
          go_wp2_with fail
          refine (VT.out _ _ w3 hb4 hsv (by omega)).mono ?_
          rintro e w4 ⟨hb5, rfl⟩
          go_wp2
          go_ret
          exact ⟨hB4.trans (hb5.mono hB4.size), by rw [HQL.out, HRm.out] <;> rfl⟩
      · have HR : Hid (redT red Q = putT (((qn : Nat) : Int) : Rat)) := by
          show _ = _
          rw [hr, HQN.out]
          exact if_pos rfl
        have q5 : (red == 5) = true := by rw [hr]; rfl
        obtain ⟨d0, d1, d2⟩ := bk3 kn
        clear HOI HSZ hr
        go_wp2_with fail
        rw [← HW2.out]
        clear HW2
        refine (VT.out _ _ w2 hb2 hn2 (by omega)).mono ?_
        rintro e w4 ⟨hb5, rfl⟩
        go_wp2
        go_ret
        exact ⟨hB2.trans (hb5.mono hB2.size), by rw [HQL.out, HR.out] <;> rfl⟩
end Go.Proofs.YtgnffedncjjkfaaGreatDoor

namespace Go.Proofs.YtgnffedncjjkfaaGreatDoor
open Go.RowKit Ar

theorem rput_any (p : Rat) (v : Value) (w : World) (h : IsQ w w.heap.size v p) (hl : sz p ≤ 100000000) :
    Calls Tryz.prog 133 #[v] w fun e w' => Below w.heap.size w w' ∧ e = .returned (.string (putT p)) := by
  obtain ⟨s, A, l, c, A', l', c', rfl⟩ := h.form
  have hA := below_alloc w (.cells #[.bool s, .slice A l c, .slice A' l' c'] 133)
  have kA := Bk.new w 133 #[Value.bool s, .slice A l c, .slice A' l' c']
  have RT := Lib.hid (rtext_any p _ _ (h.next hA) (by omega) (decide (Short p)) (by unfold Short; exact decide_eq_true_iff))
  obtain ⟨d0, d1, d2⟩ := bk3 kA
  clear h
  go_enter Tryz.func133, Tryz.ntmps133
  go_wp2_with fail
  refine RT.out.mono ?_
  rintro e w1 ⟨hb1, x, rfl, hx⟩
  have e1 : x = putT p := by
    unfold putT
    by_cases hp : Short p
    · rw [if_pos hp]; exact hx.1 (decide_eq_true hp)
    · rw [if_neg hp]; exact hx.2 (decide_eq_false hp)
  subst e1
  have hB := hA.trans (hb1.mono hA.size)
  clear hx hA hb1 kA d0 d1 d2
  go_wp2
  go_ret
  exact ⟨hB, rfl⟩

theorem rfromint_any (n : Nat) (w : World) (hn : n ≤ 100000) :
    Calls Tryz.prog 136 #[.int .i64 n] w fun e w' => Below w.heap.size w w' ∧ e = .returned (.string (putT (((n : Nat) : Int) : Rat))) := by
  have hs : sz (((n : Nat) : Int) : Rat) ≤ 1 := sz_small _ (by omega)
  go_enter Tryz.func136, Tryz.ntmps136
  go_wp2_with fail
  refine (intQ_any (n : Int) w (by omega)).mono ?_
  rintro e w1 ⟨hb1, v, rfl, hv⟩
  go_wp2_with fail
  refine (rput_any _ v w1 hv (by omega)).mono ?_
  rintro e w2 ⟨hb2, rfl⟩
  go_wp2
  go_ret
  exact ⟨hb1.trans (hb2.mono hb1.size), rfl⟩

theorem risred_any (red : Int) (w : World) :
    Calls Tryz.prog 99 #[.int .i64 red] w fun e w' => w = w' ∧ e = .returned (.bool (decide (1 ≤ red ∧ red ≤ 5))) := by
  by_cases h1 : 1 ≤ red
  · by_cases h5 : red ≤ 5
    · have e : decide (1 ≤ red ∧ red ≤ 5) = true := decide_eq_true ⟨h1, h5⟩
      rw [e]
      clear e
      go_enter Tryz.func99, Tryz.ntmps99
      go_wp2
      go_ret
      exact ⟨rfl, rfl⟩
    · have e : decide (1 ≤ red ∧ red ≤ 5) = false := decide_eq_false fun h => h5 h.2
      rw [e]
      clear e
      go_enter Tryz.func99, Tryz.ntmps99
      go_wp2
      go_ret
      exact ⟨rfl, rfl⟩
  · have e : decide (1 ≤ red ∧ red ≤ 5) = false := decide_eq_false fun h => h1 h.1
    rw [e]
    clear e
    go_enter Tryz.func99, Tryz.ntmps99
    go_wp2
    go_ret
    exact ⟨rfl, rfl⟩

theorem rsum_snoc (l : List Rat) (q : Rat) : rsum (l ++ [q]) = rsum l + q := by
  rw [rsum_app]; show _ + (q + 0) = _; grind
set_option maxRecDepth 100000 in
set_option maxHeartbeats 6400000 in
theorem rtotal_any (L : List ByteArray) (v : Value) (w : World) (h : IsT w w.heap.size v L) (hL : L.length ≤ 5000) (hL2 : ∀ s ∈ L, s.size ≤ 300) :
    Calls Tryz.prog 132 #[v] w fun e w' => Below w.heap.size w w' ∧ ∃ u, e = .returned (.tuple #[u, .int .i64 ((numsT L).length : Nat)]) ∧ IsQ w' w'.heap.size u (rsum (numsT L)) := by
  obtain ⟨A, c, rfl, hc⟩ := h.form
  have hr := h.rd
  have HAT : Hid (∀ k, k < L.length → ∃ s, L[k]? = some s ∧ s.size ≤ 4000000) := fun k hk => ⟨L[k], List.getElem?_eq_getElem hk, by have := hL2 _ (List.getElem_mem hk); omega⟩
  have HSK := Lib.hid (fun k => show sz (rsum (numsT (L.take k))) ≤ 10000000 from by
    have h1 := sz_rsum (M := 200) (numsT (L.take k)) (fun q hq => numsT_sz hq)
    have h2 : (numsT (L.take k)).length ≤ 5000 := by have := numsT_len (L.take k); rw [List.length_take] at this; omega
    have := Nat.mul_le_mul_right (200 + 1) h2
    omega)
  have HLN := Lib.hid (fun k => show (numsT (L.take k)).length ≤ 5000 from by have := numsT_len (L.take k); rw [List.length_take] at this; omega)
  have HCELL := Lib.hid (fun k (hk : k < L.length) s (hs : L[k]? = some s) => show ∃ ad, A = some ad ∧ ad.block < w.heap.size ∧ w.cell? (ad.add k) = some (.string s) from by
    obtain ⟨ad, e, hab, hcx⟩ := hr.str hk
    rw [List.getElem?_eq_getElem hk] at hs
    injection hs with hs
    exact ⟨ad, e, hab, by rw [← hs]; exact hcx⟩)
  obtain ⟨n, hn⟩ : ∃ n, n = L.length := ⟨_, rfl⟩
  rw [← hn] at hL hc HAT HCELL ⊢
  have HN := Lib.hid hn
  clear hn h hr hL2
  have hsz0 : (w.alloc (.cells #[.bool false, .slice none 0 0, .slice none 0 0] 133)).heap.size = w.heap.size + 1 := by simp
  have hB0 := (below_alloc w (.cells #[.bool false, .slice none 0 0, .slice none 0 0] 133)).alloc (by simp) (.cells #[.bool false, .slice none 0 0, .slice none 0 0] 133)
  have kr0 := (Bk.new w 133 #[Value.bool false, .slice none 0 0, .slice none 0 0]).alloc (.cells #[.bool false, .slice none 0 0, .slice none 0 0] 133)
  have hQ0 : QAt ((w.alloc (.cells #[.bool false, .slice none 0 0, .slice none 0 0] 133)).alloc (.cells #[.bool false, .slice none 0 0, .slice none 0 0] 133)) (w.heap.size + 1) (rsum (numsT (L.take 0))) := by
    have := qatN (IsQ.zero (w.alloc (.cells #[.bool false, .slice none 0 0, .slice none 0 0] 133)) (w.alloc (.cells #[.bool false, .slice none 0 0, .slice none 0 0] 133)).heap.size)
    rw [hsz0] at this
    exact this
  clear hsz0
  go_enter Tryz.func132, Tryz.ntmps132
  go_wp2_with fail
  generalize ((w.alloc (.cells #[.bool false, .slice none 0 0, .slice none 0 0] 133)).alloc (.cells #[.bool false, .slice none 0 0, .slice none 0 0] 133)) = W0 at *
  obtain ⟨bs, hbs⟩ : ∃ b, b = w.heap.size + 1 := ⟨_, rfl⟩
  obtain ⟨br, hbr⟩ : ∃ b, b = w.heap.size := ⟨_, rfl⟩
  have hbs0 : w.heap.size ≤ bs := by omega
  have hbr0 : w.heap.size ≤ br := by omega
  have hne : br ≠ bs := by omega
  rw [← hbs] at hQ0 ⊢
  have HBS := Lib.hid hbs
  clear hbs
  go_loopw [5, 12] (fun m i wr => ∃ k : Nat, k ≤ n ∧ i = .int .i64 k ∧ m = .int .i64 ((numsT (L.take k)).length : Nat) ∧ QAt wr bs (rsum (numsT (L.take k))) ∧ Bk wr w.heap.size 133 #[Value.bool false, .slice none 0 0, .slice none 0 0] ∧ Below w.heap.size w wr) (fun _ i _ => n - (intOf i).toNat)
  case atStart => exact ⟨0, Nat.zero_le _, rfl, rfl, hQ0, kr0, hB0⟩
  case round =>
    clear hQ0 kr0 hB0
    obtain ⟨k, hk, rfl, rfl, hQ, kr, hB⟩ := hrel
    have HQ := Lib.hid hQ
    have HKR := Lib.hid kr
    clear hQ kr
    by_cases hlt : k < n
    · obtain ⟨s, hs, hss⟩ := HAT.out k hlt
      obtain ⟨ad, rfl, hab, hcx0⟩ := HCELL.out k hlt s hs
      have hcx := (hB.cell (p := ad.add k) (by rw [addr_block]; exact hab)).trans hcx0
      have HTK : Hid (numsT (L.take (k + 1)) = numsT (L.take k) ++ numT s) := by
        show _ = _
        rw [List.take_add_one, hs, ← numsT_snoc]; rfl
      have RR := Lib.hid (rget_any s wr hss (numB s) (numB_iff s))
      have hln := HLN.out k
      have HSZ := Lib.hid (HSK.out k)
      clear hs hcx0
      go_wp2_with fail
      refine RR.out.mono ?_
      rintro e w2 ⟨hb2, gv, rfl, ⟨p0, hp0⟩, hg⟩
      obtain ⟨gb, gA, gn, gc, gA', gn', gc', rfl⟩ := hp0.form
      have HG := Lib.hid hg
      have hB2 := hB.trans (hb2.mono hB.size)
      have hA2 := below_alloc w2 (.cells #[.bool gb, .slice gA gn gc, .slice gA' gn' gc'] 133)
      have hB3 := hB2.trans (hA2.mono hB2.size)
      have HQ3 := Lib.hid ((HQ.out.next hb2).next hA2)
      have HKR3 := Lib.hid ((HKR.out.next' hb2).next' hA2)
      have kg := Bk.new w2 133 #[Value.bool gb, .slice gA gn gc, .slice gA' gn' gc']
      clear RR hg hp0 HQ HKR hcx hB2 hb2
      cases hnx : numB s
      · have HAR : Hid (numsT (L.take (k + 1)) = numsT (L.take k)) := by
          show _ = _
          rw [HTK.out, show numT s = [] by unfold numT; rw [if_neg (by rw [hnx]; decide)], List.append_nil]
        have HQ7 : Hid (QAt (w2.alloc (.cells #[.bool gb, .slice gA gn gc, .slice gA' gn' gc'] 133)) bs (rsum (numsT (L.take (k + 1))))) := by
          show QAt _ _ _
          rw [HAR.out]; exact HQ3.out
        clear hnx HG HTK kg hA2 HQ3
        go_wp2
        go_roundw
        case rel => exact ⟨k + 1, by omega, by go_num, by rw [HAR.out], HQ7.out, HKR3.out, hB3⟩
        case measure => simp [intOf]; omega
      · have HAR : Hid (numsT (L.take (k + 1)) = numsT (L.take k) ++ [textRat s.data.toList]) := by
          show _ = _
          rw [HTK.out, show numT s = [textRat s.data.toList] by unfold numT; rw [if_pos hnx]]
        have HG3 := Lib.hid ((HG.out hnx).next hA2)
        have hs1 := num_sz hnx
        obtain ⟨s0, B1, n1, e1, B1', n1', e1', kS, fS⟩ := HQ3.out
        have PL := Lib.hid (qplus_any _ _ _ _ _ fS HG3.out (by have := HSZ.out; omega) (by omega))
        obtain ⟨f0, f1, f2⟩ := bk3 kS
        obtain ⟨b0, b1, b2⟩ := bk3 kg
        clear hnx HG hA2 HQ3 fS HG3 HTK
        go_wp2_with fail
        generalize w2.alloc (.cells #[.bool gb, .slice gA gn gc, .slice gA' gn' gc'] 133) = w6 at *
        refine PL.out.mono ?_
        rintro e w8 ⟨hb8, v8, rfl, y8⟩
        obtain ⟨t3, A3, l3, c3, A3', l3', c3', rfl⟩ := y8.form
        have hB8 := hB3.trans (hb8.mono hB3.size)
        have kS8 := kS.next' hb8
        have kr8 := HKR3.out.next' hb8
        have hB9 := set3_below hB8 (b := bs) (x := .bool t3) (y := .slice A3 l3 c3) (z := .slice A3' l3' c3') hbs0
        have kS9 := set3_bk (x := .bool t3) (y := .slice A3 l3 c3) (z := .slice A3' l3' c3') kS8
        have y9 := (y8.set3 kS8 (.bool t3) (.slice A3 l3 c3) (.slice A3' l3' c3')).more (B' := (set3 w8 bs (.bool t3) (.slice A3 l3 c3) (.slice A3' l3' c3')).heap.size) (by rw [set3_size]; exact Nat.le_refl _)
        have HQ9 : Hid (QAt (set3 w8 bs (.bool t3) (.slice A3 l3 c3) (.slice A3' l3' c3')) bs (rsum (numsT (L.take (k + 1))))) := ⟨_, _, _, _, _, _, _, kS9, by rw [HAR.out, rsum_snoc]; exact y9⟩
        have HKR9 : Hid (Bk (set3 w8 bs (.bool t3) (.slice A3 l3 c3) (.slice A3' l3' c3')) w.heap.size 133 #[Value.bool false, .slice none 0 0, .slice none 0 0]) := by
          rw [hbr] at hne
          exact ((kr8.far (p := ⟨bs, 0, none⟩) hne _).far (p := ⟨bs, 1, none⟩) hne _).far (p := ⟨bs, 2, none⟩) hne _
        obtain ⟨d0, d1, d2⟩ := bk3 kS8
        have g0 := kS8.frozen 0
        have g1 := kS8.frozen 1
        have g2 := kS8.frozen 2
        have HLE : Hid ((numsT (L.take (k + 1))).length = (numsT (L.take k)).length + 1) := by show _ = _; rw [HAR.out, List.length_append]; rfl
        clear kS f0 f1 f2 b0 b1 b2 kg PL hb8 kr8 HKR3 kS8 y8 kS9 y9 HAR
        unfold set3 at hB9 HQ9 HKR9
        go_wp2
        go_roundw
        case rel => exact ⟨k + 1, by omega, by go_num, by rw [HLE.out]; go_num, HQ9.out, HKR9.out, hB9⟩
        case measure => simp [intOf]; omega
    · obtain rfl : k = n := by omega
      have HTL : Hid (L.take k = L) := List.take_of_length_le (by rw [← HN.out]; exact Nat.le_refl _)
      obtain ⟨s0, B1, n1, e1, B1', n1', e1', kS, fS⟩ := HQ.out
      obtain ⟨f0, f1, f2⟩ := bk3 kS
      have kr := HKR.out
      obtain ⟨d0, d1, d2⟩ := bk3 kr
      have g0 := kr.frozen 0
      have g1 := kr.frozen 1
      have g2 := kr.frozen 2
      have y9 := (fS.set3 kr (.bool s0) (.slice B1 n1 e1) (.slice B1' n1' e1')).more (B' := (set3 wr w.heap.size (.bool s0) (.slice B1 n1 e1) (.slice B1' n1' e1')).heap.size) (by rw [set3_size]; exact Nat.le_refl _)
      have hB9 := set3_below hB (b := w.heap.size) (x := .bool s0) (y := .slice B1 n1 e1) (z := .slice B1' n1' e1') (Nat.le_refl _)
      rw [HTL.out] at y9
      have HY9 := Lib.hid y9
      clear HQ fS kS kr HKR HAT HCELL HLN HSK y9
      go_wp2
      refine bodyPost_ret (v := .tuple #[.agg #[.bool s0, .slice B1 n1 e1, .slice B1' n1' e1'], .int .i64 ((numsT L).length : Nat)]) (by simp [results, Tryz.results132, go_sem, d0, d1, d2, HTL.out]) rfl ?_
      exact ⟨hB9, _, rfl, HY9.out⟩
end Go.Proofs.YtgnffedncjjkfaaGreatDoor

namespace Go.Proofs.YtgnffedncjjkfaaGreatDoor
open Go.RowKit Ar

set_option maxRecDepth 100000 in
set_option maxHeartbeats 6400000 in
theorem rtwo_any (s t : ByteArray) (w : World) (hs : s.size ≤ 4000000) (ht : t.size ≤ 4000000) :
    Calls Tryz.prog 149 #[.string s, .string t] w fun e w' => Below w.heap.size w w' ∧ ∃ u v, e = .returned (.tuple #[u, v, .bool (numB s && numB t)]) ∧ GotQ (numB s) u w' (textRat s.data.toList) ∧ GotQ (numB t) v w' (textRat t.data.toList) := by
  have hsz0 : (w.alloc (.cells #[.bool false, .slice none 0 0, .slice none 0 0] 133)).heap.size = w.heap.size + 1 := by simp
  have hB0 := (below_alloc w (.cells #[.bool false, .slice none 0 0, .slice none 0 0] 133)).alloc (by simp) (.cells #[.bool false, .slice none 0 0, .slice none 0 0] 133)
  have kr0 := (Bk.new w 133 #[Value.bool false, .slice none 0 0, .slice none 0 0]).alloc (.cells #[.bool false, .slice none 0 0, .slice none 0 0] 133)
  have ks0 := Bk.new2 w (.cells #[.bool false, .slice none 0 0, .slice none 0 0] 133) 133 #[Value.bool false, .slice none 0 0, .slice none 0 0]
  clear hsz0
  go_enter Tryz.func149, Tryz.ntmps149
  go_wp2_with fail
  generalize ((w.alloc (.cells #[.bool false, .slice none 0 0, .slice none 0 0] 133)).alloc (.cells #[.bool false, .slice none 0 0, .slice none 0 0] 133)) = W0 at *
  refine (rget_any s W0 hs (numB s) (numB_iff s)).mono ?_
  rintro e w2 ⟨hb2, gv, rfl, ⟨p0, hp0⟩, hg⟩
  obtain ⟨gb, gA, gn, gc, gA', gn', gc', rfl⟩ := hp0.form
  have hB2 := hB0.trans (hb2.mono hB0.size)
  have hA2 := below_alloc w2 (.cells #[.bool gb, .slice gA gn gc, .slice gA' gn' gc'] 133)
  have hB3 := hB2.trans (hA2.mono hB2.size)
  have kr3 := (kr0.next' hb2).next' hA2
  have ks3 := (ks0.next' hb2).next' hA2
  have kg3 := Bk.new w2 133 #[Value.bool gb, .slice gA gn gc, .slice gA' gn' gc']
  have hp3 := hp0.next hA2
  have HG3 := Lib.hid (fun h => (hg h).next hA2)
  have hB2s : w.heap.size + 2 ≤ w2.heap.size := by have := hb2.size; have := ks0.lt; omega
  clear kr0 ks0 hB0 hb2 hA2 hp0 hg hB2
  go_wp2_with fail
  generalize w2.alloc (.cells #[.bool gb, .slice gA gn gc, .slice gA' gn' gc'] 133) = w3 at *
  refine (rget_any t w3 ht (numB t) (numB_iff t)).mono ?_
  rintro e w4 ⟨hb4, xv, rfl, ⟨p1, hp1⟩, hx⟩
  obtain ⟨xb, xA, xn, xc, xA', xn', xc', rfl⟩ := hp1.form
  have hB4 := hB3.trans (hb4.mono hB3.size)
  have hA4 := below_alloc w4 (.cells #[.bool xb, .slice xA xn xc, .slice xA' xn' xc'] 133)
  have hB5 := hB4.trans (hA4.mono hB4.size)
  have hB4s : w2.heap.size + 1 ≤ w4.heap.size := by have := hb4.size; have := kg3.lt; omega
  have kr5 := (kr3.next' hb4).next' hA4
  have ks5 := (ks3.next' hb4).next' hA4
  have kg5 := (kg3.next' hb4).next' hA4
  have kx5 := Bk.new w4 133 #[Value.bool xb, .slice xA xn xc, .slice xA' xn' xc']
  have hp5 := (hp3.next hb4).next hA4
  have HG5 := Lib.hid (fun h => ((HG3.out h).next hb4).next hA4)
  have hq5 := hp1.next hA4
  have HX5 := Lib.hid (fun h => (hx h).next hA4)
  obtain ⟨r0, r1, r2⟩ := bk3 kr5
  obtain ⟨s0, s1, s2⟩ := bk3 ks5
  obtain ⟨g0, g1, g2⟩ := bk3 kg5
  obtain ⟨x0, x1, x2⟩ := bk3 kx5
  have rf0 := kr5.frozen 0
  have rf1 := kr5.frozen 1
  have rf2 := kr5.frozen 2
  have sf0 := ks5.frozen 0
  have sf1 := ks5.frozen 1
  have sf2 := ks5.frozen 2
  have hne1 : w2.heap.size ≠ w.heap.size := by have := hB2s; omega
  have hne2 : w2.heap.size ≠ w.heap.size + 1 := by have := hB2s; omega
  have hne3 : w4.heap.size ≠ w.heap.size := by have := hB4s; omega
  have hne4 : w4.heap.size ≠ w.heap.size + 1 := by have := hB4s; omega
  clear kr3 ks3 kg3 hp3 HG3 hp1 hx hA4 hb4 hB3 hB4 hB2s hB4s
  go_wp2_with fail
  generalize w4.alloc (.cells #[.bool xb, .slice xA xn xc, .slice xA' xn' xc'] 133) = w5 at *
  generalize w4.heap.size = b9 at *
  generalize w2.heap.size = b7 at *
  have hne5 : w.heap.size ≠ w.heap.size + 1 := by omega
  have kR := set3_bk (x := .bool gb) (y := .slice gA gn gc) (z := .slice gA' gn' gc') kr5
  have ks6 : Bk (set3 w5 w.heap.size (.bool gb) (.slice gA gn gc) (.slice gA' gn' gc')) (w.heap.size + 1) 133 #[Value.bool false, .slice none 0 0, .slice none 0 0] := ((ks5.far (p := ⟨w.heap.size, 0, none⟩) (Ne.symm hne5) _).far (p := ⟨w.heap.size, 1, none⟩) (Ne.symm hne5) _).far (p := ⟨w.heap.size, 2, none⟩) (Ne.symm hne5) _
  have kS := (set3_bk (x := .bool xb) (y := .slice xA xn xc) (z := .slice xA' xn' xc') ks6).drew
  have kR7 : Bk ((set3 (set3 w5 w.heap.size (.bool gb) (.slice gA gn gc) (.slice gA' gn' gc')) (w.heap.size + 1) (.bool xb) (.slice xA xn xc) (.slice xA' xn' xc')).drew) w.heap.size 133 #[Value.bool gb, .slice gA gn gc, .slice gA' gn' gc'] := (((kR.far (p := ⟨w.heap.size + 1, 0, none⟩) hne5 (.bool xb)).far (p := ⟨w.heap.size + 1, 1, none⟩) hne5 (.slice xA xn xc)).far (p := ⟨w.heap.size + 1, 2, none⟩) hne5 (.slice xA' xn' xc')).drew
  have hB9 : Below w.heap.size w ((set3 (set3 w5 w.heap.size (.bool gb) (.slice gA gn gc) (.slice gA' gn' gc')) (w.heap.size + 1) (.bool xb) (.slice xA xn xc) (.slice xA' xn' xc')).drew) := (set3_below (set3_below hB5 (b := w.heap.size) (x := .bool gb) (y := .slice gA gn gc) (z := .slice gA' gn' gc') (Nat.le_refl _)) (b := w.heap.size + 1) (x := .bool xb) (y := .slice xA xn xc) (z := .slice xA' xn' xc') (by omega)).drew
  have hsz9 : (set3 (set3 w5 w.heap.size (.bool gb) (.slice gA gn gc) (.slice gA' gn' gc')) (w.heap.size + 1) (.bool xb) (.slice xA xn xc) (.slice xA' xn' xc')).heap.size = w5.heap.size := by rw [set3_size, set3_size]
  have HIS := Lib.hid (fun (u : Value) (q : Rat) (h : IsQ w5 w5.heap.size u q) => IsQ.drew (w := (set3 (set3 w5 w.heap.size (.bool gb) (.slice gA gn gc) (.slice gA' gn' gc')) (w.heap.size + 1) (.bool xb) (.slice xA xn xc) (.slice xA' xn' xc'))) (((h.set3 kr5 (.bool gb) (.slice gA gn gc) (.slice gA' gn' gc')).set3 ks6 (.bool xb) (.slice xA xn xc) (.slice xA' xn' xc')).more (Nat.le_of_eq hsz9.symm)))
  have hp9 := HIS.out _ _ hp5
  have hq9 := HIS.out _ _ hq5
  have HG9 := Lib.hid (fun h => HIS.out _ _ (HG5.out h))
  have HX9 := Lib.hid (fun h => HIS.out _ _ (HX5.out h))
  obtain ⟨y0, y1, y2⟩ := bk3 kR7
  obtain ⟨z0, z1, z2⟩ := bk3 kS
  clear kR ks6 kS kR7 hp5 hq5 HG5 HX5 HIS hsz9 kr5 ks5 hB5
  cases hns : numB s
  · go_region
    change Exit.then _ _ _ _ ((set3 (set3 w5 w.heap.size (.bool gb) (.slice gA gn gc) (.slice gA' gn' gc')) (w.heap.size + 1) (.bool xb) (.slice xA xn xc) (.slice xA' xn' xc')).drew)
    generalize ((set3 (set3 w5 w.heap.size (.bool gb) (.slice gA gn gc) (.slice gA' gn' gc')) (w.heap.size + 1) (.bool xb) (.slice xA xn xc) (.slice xA' xn' xc')).drew) = w9 at *
    go_wp2
    refine bodyPost_ret (v := .tuple #[.agg #[.bool gb, .slice gA gn gc, .slice gA' gn' gc'], .agg #[.bool xb, .slice xA xn xc, .slice xA' xn' xc'], .bool false]) (by simp [results, Tryz.results149, go_sem, y0, y1, y2, z0, z1, z2]) rfl ?_
    exact ⟨hB9, _, _, by rw [hns] <;> rfl, ⟨⟨p0, hp9⟩, HG9.out⟩, ⟨p1, hq9⟩, HX9.out⟩
  · go_region
    change Exit.then _ _ _ _ ((set3 (set3 w5 w.heap.size (.bool gb) (.slice gA gn gc) (.slice gA' gn' gc')) (w.heap.size + 1) (.bool xb) (.slice xA xn xc) (.slice xA' xn' xc')).drew)
    generalize ((set3 (set3 w5 w.heap.size (.bool gb) (.slice gA gn gc) (.slice gA' gn' gc')) (w.heap.size + 1) (.bool xb) (.slice xA xn xc) (.slice xA' xn' xc')).drew) = w9 at *
    go_wp2
    refine bodyPost_ret (v := .tuple #[.agg #[.bool gb, .slice gA gn gc, .slice gA' gn' gc'], .agg #[.bool xb, .slice xA xn xc, .slice xA' xn' xc'], .bool (numB t)]) (by simp [results, Tryz.results149, go_sem, y0, y1, y2, z0, z1, z2]) rfl ?_
    exact ⟨hB9, _, _, by rw [hns] <;> rfl, ⟨⟨p0, hp9⟩, HG9.out⟩, ⟨p1, hq9⟩, HX9.out⟩

theorem rcompare_any (s t : ByteArray) (w : World) (hs : s.size ≤ 4000000) (ht : t.size ≤ 4000000) (q : Bool) (hq : (numB s && numB t) = q) :
    Calls Tryz.prog 137 #[.string s, .string t] w fun e w' => Below w.heap.size w w' ∧ ∃ c : Int, e = .returned (.tuple #[.int .i64 c, .bool q]) ∧ (q = true → c = cmpQ (textRat s.data.toList) (textRat t.data.toList)) := by
  have HQ := Lib.hid hq
  have TW := rtwo_any s t w hs ht
  rw [hq] at TW
  clear hq
  go_enter Tryz.func137, Tryz.ntmps137
  go_wp2_with fail
  refine TW.mono ?_
  rintro e w2 ⟨hb2, gv, xv, rfl, ⟨⟨p0, hp0⟩, hg⟩, ⟨p1, hp1⟩, hx⟩
  obtain ⟨gb, gA, gn, gc, gA', gn', gc', rfl⟩ := hp0.form
  obtain ⟨xb, xA, xn, xc, xA', xn', xc', rfl⟩ := hp1.form
  have hA := (below_alloc w2 (.cells #[.bool gb, .slice gA gn gc, .slice gA' gn' gc'] 133)).alloc (by simp) (.cells #[.bool xb, .slice xA xn xc, .slice xA' xn' xc'] 133)
  have hB := hb2.trans (hA.mono hb2.size)
  have kg := (Bk.new w2 133 #[Value.bool gb, .slice gA gn gc, .slice gA' gn' gc']).alloc (.cells #[.bool xb, .slice xA xn xc, .slice xA' xn' xc'] 133)
  have kx := Bk.new2 w2 (.cells #[.bool gb, .slice gA gn gc, .slice gA' gn' gc'] 133) 133 #[Value.bool xb, .slice xA xn xc, .slice xA' xn' xc']
  cases q
  · clear TW hp0 hp1 hg hx kg kx HQ hA
    go_wp2
    go_ret2
    exact ⟨hB, _, rfl, fun h => (by cases h)⟩
  · obtain ⟨h1, h2⟩ := Bool.and_eq_true_iff.1 HQ.out
    have ss := num_sz h1
    have st := num_sz h2
    have CC := Lib.hid (qcmp_any _ _ _ _ _ ((hg h1).next hA) ((hx h2).next hA) (by omega) (by omega))
    obtain ⟨g0, g1, g2⟩ := bk3 kg
    obtain ⟨x0, x1, x2⟩ := bk3 kx
    clear TW hp0 hp1 hg hx kg kx HQ hA h1 h2
    go_wp2_with fail
    refine CC.out.mono ?_
    rintro e w4 ⟨hb4, rfl⟩
    have hB4 := hB.trans (hb4.mono hB.size)
    clear g0 g1 g2 x0 x1 x2 hb4 hB
    go_wp2
    go_ret2
    first | exact ⟨hB4, rfl⟩ | exact ⟨hB4, _, rfl, fun _ => rfl⟩
end Go.Proofs.YtgnffedncjjkfaaGreatDoor

namespace Go.Proofs.YtgnffedncjjkfaaGreatDoor
open Go.RowKit Ar

/-- The best text. -/
def bsT (red : Int) (l : List Rat) : ByteArray := match bst red l with | none => ⟨#[]⟩ | some m => putT m
theorem bsT_red {red : Int} (hr : red = 3 ∨ red = 4) (l : List Rat) : redT red l = bsT red l := by
  unfold redT bsT
  rw [if_neg (by omega), if_neg (by omega)]
  by_cases h : l = []
  · rw [if_pos h, h]; rfl
  · rw [if_neg h, if_neg (by omega)]
    all_goals (cases bst red l <;> rfl)
theorem noEmpty : numB ⟨#[]⟩ = false := by
  cases h : numB ⟨#[]⟩ with
  | false => rfl
  | true =>
    have h1 := ((numB_iff _).1 h).1
    exact absurd (isText_digs h1).2.2.1 (by decide)
theorem bsT_size {red : Int} (l : List Rat) : (bsT red l).size ≤ 4000000 := by
  have hp : ∀ q, (putT q).size ≤ 4000000 := fun q => by
    by_cases h : Short q
    · have := isNum_len ((numB_iff _).1 (put_num h).1)
      rw [size_list'] at this
      omega
    · unfold putT; rw [if_neg h]; decide
  unfold bsT
  split
  · decide
  · exact hp _
/-- The next best text. -/
theorem bsT_next {red : Int} (hr : red = 3 ∨ red = 4) {l : List Rat} (hl : ∀ q ∈ l, Short q) {s : ByteArray} (hs : numB s = true) :
    (numB (bsT red l) = false → bsT red (l ++ [textRat s.data.toList]) = s) ∧
    (numB (bsT red l) = true → Better red (textRat s.data.toList) (textRat (bsT red l).data.toList) → bsT red (l ++ [textRat s.data.toList]) = s) ∧
    (numB (bsT red l) = true → ¬ Better red (textRat s.data.toList) (textRat (bsT red l).data.toList) → bsT red (l ++ [textRat s.data.toList]) = bsT red l) := by
  cases h : bst red l with
  | none =>
    have e : bsT red l = ⟨#[]⟩ := by unfold bsT; rw [h]
    have e2 : bsT red (l ++ [textRat s.data.toList]) = s := by
      unfold bsT
      rw [bst_snoc, h]
      exact num_put hs
    rw [e, noEmpty]
    exact ⟨fun _ => e2, fun h => (by cases h), fun h => (by cases h)⟩
  | some m =>
    have hm := put_num (hl m (bst_mem hr h))
    have e : bsT red l = putT m := by unfold bsT; rw [h]
    rw [e, hm.1, hm.2]
    refine ⟨fun h => (by cases h), fun _ hb => ?_, fun _ hb => ?_⟩
    · unfold bsT
      rw [bst_snoc, h]
      show (match (if Better red (textRat s.data.toList) m then some (textRat s.data.toList) else some m) with | none => ⟨#[]⟩ | some m => putT m) = s
      rw [if_pos hb]
      exact num_put hs
    · unfold bsT
      rw [bst_snoc, h]
      show (match (if Better red (textRat s.data.toList) m then some (textRat s.data.toList) else some m) with | none => ⟨#[]⟩ | some m => putT m) = putT m
      rw [if_neg hb]

set_option maxRecDepth 100000 in
set_option maxHeartbeats 12800000 in
theorem rreduction_any (L : List ByteArray) (red : Int) (v : Value) (w : World) (h : IsT w w.heap.size v L) (hL : L.length ≤ 5000) (hL2 : ∀ s ∈ L, s.size ≤ 300) (hv : ∀ s ∈ L, valB s = true) (h1 : 1 ≤ red) (h5 : red ≤ 5) :
    Calls Tryz.prog 100 #[v, .int .i64 red] w fun e w' => Below w.heap.size w w' ∧ e = .returned (.string (redT red (numsT L))) := by
  have TT := rtotal_any L v w h hL hL2
  obtain ⟨A, c, rfl, hc⟩ := h.form
  have hr := h.rd
  have HLN : (numsT L).length ≤ 5000 := by have := numsT_len L; omega
  have hsz : sz (rsum (numsT L)) ≤ 10000000 := by
    have h1 := sz_rsum (M := 200) (numsT L) (fun q hq => numsT_sz hq)
    have := Nat.mul_le_mul_right (200 + 1) HLN
    omega
  have HN0 : Hid ((numsT L).length = 0 → numsT L = []) := fun h => List.eq_nil_of_length_eq_zero h
  obtain ⟨Q, hQ⟩ : ∃ Q, Q = numsT L := ⟨_, rfl⟩
  obtain ⟨qn, hqn⟩ : ∃ n, n = (numsT L).length := ⟨_, rfl⟩
  rw [← hQ] at hsz HN0 TT
  rw [← hqn] at HLN
  rw [← hQ] at hqn
  rw [← hqn] at HN0 TT
  have HQN := Lib.hid hqn
  have HQ := Lib.hid hQ
  have hq64 : (qn : Int) ≤ 5000 := by omega
  go_enter Tryz.func100, Tryz.ntmps100
  go_wp2_with fail
  refine TT.mono ?_
  rintro e w1 ⟨hb1, tv, rfl, htv⟩
  obtain ⟨tb, tA, tn, tc, tA', tn', tc', rfl⟩ := htv.form
  have hA := below_alloc w1 (.cells #[.bool tb, .slice tA tn tc, .slice tA' tn' tc'] 133)
  have hB := hb1.trans (hA.mono hb1.size)
  have ht := htv.next hA
  have kt := Bk.new w1 133 #[Value.bool tb, .slice tA tn tc, .slice tA' tn' tc']
  obtain ⟨w2, hw2⟩ : ∃ x, x = w1.alloc (.cells #[.bool tb, .slice tA tn tc, .slice tA' tn' tc'] 133) := ⟨_, rfl⟩
  rw [← hw2] at hB ht kt
  have HW2 := Lib.hid hw2
  clear hA htv TT hQ hqn hb1
  rcases (by omega : red = 1 ∨ red = 2 ∨ red = 5 ∨ (red = 3 ∨ red = 4)) with hr | hr | hr | hr34
  · have HR : Hid (redT red Q = putT (rsum Q)) := by show _ = _; rw [hr]; rfl
    have q1 : (red == 1) = true := by rw [hr]; rfl
    have PT := Lib.hid (rput_any _ _ w2 ht (by omega))
    obtain ⟨d0, d1, d2⟩ := bk3 kt
    rw [hw2] at d0 d1 d2
    clear hw2 kt ht
    go_wp2_with fail
    rw [← HW2.out]
    refine PT.out.mono ?_
    rintro e w4 ⟨hb4, rfl⟩
    go_wp2
    go_ret
    exact ⟨hB.trans (hb4.mono hB.size), by rw [← HQ.out, HR.out] <;> rfl⟩
  · have q1 : (red == 1) = false := by rw [hr]; rfl
    have q2 : (red == 2) = true := by rw [hr]; rfl
    rcases Nat.eq_zero_or_pos qn with h0 | h0
    · have HR : Hid (redT red Q = ⟨#[]⟩) := by show _ = _; rw [hr, HN0.out h0]; rfl
      have z0 : ((qn : Int) == 0) = true := by simp <;> omega
      clear hw2 kt ht
      go_wp2
      go_ret
      exact ⟨HW2.out ▸ hB, by rw [← HQ.out, HR.out] <;> rfl⟩
    · have HR : Hid (redT red Q = putT (rsum Q / (((qn : Nat) : Int) : Rat))) := by
        show _ = _
        rw [hr]
        unfold redT
        rw [if_neg (by decide), if_neg (by decide), if_neg (fun h => by have := HQN.out; rw [h] at this; simp at this; omega), if_pos rfl, HQN.out]
      have z0 : ((qn : Int) == 0) = false := by simp <;> omega
      have hqz : (((qn : Nat) : Int) : Rat) ≠ 0 := fun h => by
        have h' : ((qn : Nat) : Int) = 0 := by exact_mod_cast h
        omega
      have hsd := sz_div (rsum Q) (((qn : Nat) : Int) : Rat) hqz
      have hsn : sz (((qn : Nat) : Int) : Rat) ≤ 1 := sz_small _ (by omega)
      clear hr
      clear hw2
      go_wp2_with fail
      obtain ⟨d0, d1, d2⟩ := bk3 kt
      rw [← HW2.out]
      refine wp_region_held_drew (S := fun Y => Y.cell? ⟨w1.heap.size, 0, none⟩ = some (.bool tb) ∧ Y.cell? ⟨w1.heap.size, 1, none⟩ = some (.slice tA tn tc) ∧ Y.cell? ⟨w1.heap.size, 2, none⟩ = some (.slice tA' tn' tc')) (by kernel_rfl) ⟨d0, d1, d2⟩ (fun hS => ?_)
      clear d0 d1 d2 HW2
      have kd := kt.drew
      have hBd := hB.drew
      have htd := ht.drew
      clear kt hB ht
      generalize w2.drew = wd at *
      refine takeA (i := 0) (v := ?_) rfl (by kernel_rfl) (by kernel_rfl) (by kernel_rfl) (fun _ _ _ h => h) (by rfl) (by assumption) ?_ ?_
      rotate_left
      · intro w hSw; (try dsimp only at hSw); go_simp <;> with_reducible rfl
      try simp only [Act.put, List.setIfInBounds_toArray, List.set_cons_zero, List.set_cons_succ]
      refine takeA (i := 1) (v := ?_) rfl (by kernel_rfl) (by kernel_rfl) (by kernel_rfl) (fun _ _ _ h => h) (by rfl) (by assumption) ?_ ?_
      rotate_left
      · intro w hSw; (try dsimp only at hSw); go_simp <;> with_reducible rfl
      try simp only [Act.put, List.setIfInBounds_toArray, List.set_cons_zero, List.set_cons_succ]
      refine stepA (i := 2) rfl (by kernel_rfl) (fun K0 hK0 => ?_)
      go_simp
      refine (intQ_any (qn : Int) wd (by omega)).mono ?_
      rintro e w3 ⟨hb3, iv, rfl, hiv⟩
      have hB4 := hBd.trans (hb3.mono hBd.size)
      have k4 := kd.below hb3 kd.lt
      have ht4 := htd.next hb3
      obtain ⟨sb, sA, sl, sc, sA', sl', sc', rfl⟩ := hiv.form
      dsimp only
      refine hK0.out _ _ (bk3 k4) (fun hS4 => ?_)
      clear hK0 K0 hb3 hS hBd kd htd
      try simp only [Act.put, List.setIfInBounds_toArray, List.set_cons_zero, List.set_cons_succ]
      refine stepA (i := 3) rfl (by kernel_rfl) (fun K0 hK0 => ?_)
      go_simp
      refine (qquot_any _ _ _ _ _ ht4 hiv (by omega) (by omega)).mono ?_
      rintro e w5 ⟨hb5, dv, rfl, hdv⟩
      have hB6 := hB4.trans (hb5.mono hB4.size)
      have k6 := k4.below hb5 k4.lt
      obtain ⟨xb, xA, xl, xc, xA', xl', xc', rfl⟩ := hdv.form
      dsimp only
      refine hK0.out _ _ (bk3 k6) (fun hS6 => ?_)
      clear hK0 K0 hb5 hS4 hB4 k4 ht4 hiv
      try simp only [Act.put, List.setIfInBounds_toArray, List.set_cons_zero, List.set_cons_succ]
      refine stepA (i := 4) rfl (by kernel_rfl) (fun K0 hK0 => ?_)
      go_simp
      refine (rput_any _ _ w5 hdv (by omega)).mono ?_
      rintro e w7 ⟨hb7, rfl⟩
      have hB8 := hB6.trans (hb7.mono hB6.size)
      have k8 := k6.below hb7 k6.lt
      dsimp only
      refine hK0.out _ _ (bk3 k8) (fun hS8 => ?_)
      clear hK0 K0 hb7 hS6 hB6 k6 hdv
      try simp only [Act.put, List.setIfInBounds_toArray, List.set_cons_zero, List.set_cons_succ]
      refine takeA (i := 5) (v := ?_) rfl (by kernel_rfl) (by kernel_rfl) (by kernel_rfl) (fun _ _ _ h => h) (by rfl) (by assumption) ?_ ?_
      rotate_left
      · intro w hSw; (try dsimp only at hSw); go_simp <;> with_reducible rfl
      try simp only [Act.put, List.setIfInBounds_toArray, List.set_cons_zero, List.set_cons_succ]
      refine wpAnyH_done (by kernel_rfl) ?_ _
      go_wp2
      go_ret
      exact ⟨hB8, by rw [← HQ.out, HR.out] <;> rfl⟩
  · have HR : Hid (redT red Q = putT (((qn : Nat) : Int) : Rat)) := by
      show _ = _
      rw [hr, HQN.out]
      exact if_pos rfl
    have q1 : (red == 1) = false := by rw [hr]; rfl
    have q2 : (red == 2) = false := by rw [hr]; rfl
    have q5 : (red == 5) = true := by rw [hr]; rfl
    have PT := Lib.hid (rfromint_any qn w2 (by omega))
    clear hw2 kt ht hr
    go_wp2_with fail
    rw [← HW2.out]
    refine PT.out.mono ?_
    rintro e w4 ⟨hb4, rfl⟩
    go_wp2
    go_ret
    exact ⟨hB.trans (hb4.mono hB.size), by rw [← HQ.out, HR.out] <;> rfl⟩
  · have HR : Hid (redT red Q = bsT red Q) := bsT_red hr34 Q
    have q1 : (red == 1) = false := by rcases hr34 with h | h <;> rw [h] <;> rfl
    have q2 : (red == 2) = false := by rcases hr34 with h | h <;> rw [h] <;> rfl
    have q5 : (red == 5) = false := by rcases hr34 with h | h <;> rw [h] <;> rfl
    have HAT : Hid (∀ k, k < L.length → ∃ s, L[k]? = some s ∧ s.size ≤ 4000000 ∧ valB s = true) := fun k hk => ⟨L[k], List.getElem?_eq_getElem hk, by have := hL2 _ (List.getElem_mem hk); omega, hv _ (List.getElem_mem hk)⟩
    have HCELL := Lib.hid (fun k (hk : k < L.length) s (hs : L[k]? = some s) => show ∃ ad, A = some ad ∧ ad.block < w.heap.size ∧ w.cell? (ad.add k) = some (.string s) from by
      obtain ⟨ad, e, hab, hcx⟩ := hr.str hk
      rw [List.getElem?_eq_getElem hk] at hs
      injection hs with hs
      exact ⟨ad, e, hab, by rw [← hs]; exact hcx⟩)
    have HR34 := Lib.hid hr34
    have hb2 : Below w.heap.size w (w1.alloc (.cells #[.bool tb, .slice tA tn tc, .slice tA' tn' tc'] 133)) := by rw [← hw2]; exact hB
    obtain ⟨n, hn⟩ : ∃ n, n = L.length := ⟨_, rfl⟩
    rw [← hn] at hL hc HAT HCELL ⊢
    have HNN := Lib.hid hn
    clear hw2 kt ht hr hr34 hv hL2 h hn hsz hB
    go_wp2_with fail
    generalize w1.alloc (.cells #[.bool tb, .slice tA tn tc, .slice tA' tn' tc'] 133) = W2 at *
    go_loopw [7, 8] (fun b i wr => ∃ k : Nat, k ≤ n ∧ i = .int .i64 k ∧ b = .string (bsT red (numsT (L.take k))) ∧ Below w.heap.size w wr) (fun _ i _ => n - (intOf i).toNat)
    case atStart => exact ⟨0, Nat.zero_le _, rfl, rfl, hb2⟩
    case round =>
      clear hb2 HW2
      obtain ⟨k, hk, rfl, rfl, hB⟩ := hrel
      by_cases hlt : k < n
      · obtain ⟨s, hs, hss, hsv⟩ := HAT.out k hlt
        obtain ⟨ad, rfl, hab, hcx0⟩ := HCELL.out k hlt s hs
        have hcx := (hB.cell (p := ad.add k) (by rw [addr_block]; exact hab)).trans hcx0
        have HTK : Hid (numsT (L.take (k + 1)) = numsT (L.take k) ++ numT s) := by
          show _ = _
          rw [List.take_add_one, hs, ← numsT_snoc]; rfl
        have hbz := bsT_size (red := red) (numsT (L.take k))
        cases hnx : numB s
        · have hse : s = ⟨#[]⟩ := by
            rcases (valB_iff s).1 hsv with h | h
            · exact ba_list h
            · have := (numB_iff s).2 h; rw [hnx] at this; cases this
          have HSM : Hid (bsT red (numsT (L.take (k + 1))) = bsT red (numsT (L.take k))) := by
            show _ = _
            rw [HTK.out, show numT s = [] by unfold numT; rw [if_neg (by rw [hnx]; decide)], List.append_nil]
          generalize bsT red (numsT (L.take k)) = b at *
          have RC := Lib.hid (rcompare_any s b wr hss hbz false (by rw [hnx]; rfl))
          subst hse
          clear hnx hsv hs hcx0 HTK
          go_wp2_with fail
          refine RC.out.mono ?_
          rintro e w4 ⟨hb4, cv, rfl, -⟩
          have hB4 := hB.trans (hb4.mono hB.size)
          have hcx4 := (hb4.cell (p := ad.add k) (by rw [addr_block]; have := hB.size; omega)).trans hcx
          clear RC hcx hb4 hB
          go_wp2
          go_roundw
          case rel => exact ⟨k + 1, by omega, by go_num, by rw [HSM.out], hB4⟩
          case measure => simp [intOf]; omega
        · have hsn : (s.toList == []) = false := by
            rw [ByteArray.toList_eq, beq_eq_false_iff_ne]
            intro h0
            have : s = ⟨#[]⟩ := ba_list h0
            rw [this, noEmpty] at hnx; cases hnx
          obtain ⟨n1, n2, n3⟩ := bsT_next HR34.out (l := numsT (L.take k)) (fun q hq => numsT_short hq) hnx
          rw [show numsT (L.take k) ++ [textRat s.data.toList] = numsT (L.take (k + 1)) by rw [HTK.out]; unfold numT; rw [if_pos hnx]] at n1 n2 n3
          have N1 := Lib.hid n1
          have N2 := Lib.hid n2
          have N3 := Lib.hid n3
          clear n1 n2 n3 HTK
          generalize bsT red (numsT (L.take k)) = b at *
          cases hnb : numB b
          · have RC := Lib.hid (rcompare_any s b wr hss hbz false (by rw [hnx, hnb]; rfl))
            have HNW := Lib.hid (N1.out hnb)
            clear hnx hnb hsv hs hcx0 N1 N2 N3
            go_wp2_with fail
            refine RC.out.mono ?_
            rintro e w4 ⟨hb4, cv, rfl, -⟩
            have hB4 := hB.trans (hb4.mono hB.size)
            have hcx4 := (hb4.cell (p := ad.add k) (by rw [addr_block]; have := hB.size; omega)).trans hcx
            clear RC hcx hb4 hB
            go_wp2
            go_roundw
            case rel => exact ⟨k + 1, by omega, by go_num, by rw [HNW.out], hB4⟩
            case measure => simp [intOf]; omega
          · have RC := Lib.hid (rcompare_any s b wr hss hbz true (by rw [hnx, hnb]; rfl))
            have HL := Lib.hid (lessQ (textRat s.data.toList) (textRat b.data.toList))
            have HM := Lib.hid (moreQ (textRat s.data.toList) (textRat b.data.toList))
            have N2 := Lib.hid (N2.out hnb)
            have N3 := Lib.hid (N3.out hnb)
            clear hnx hnb hsv hs hcx0 N1
            go_wp2_with fail
            refine RC.out.mono ?_
            rintro e w4 ⟨hb4, cv, rfl, hcv⟩
            replace hcv := hcv (by trivial)
            unfold cmpQ at hcv
            rw [← hcv] at HL HM
            have hB4 := hB.trans (hb4.mono hB.size)
            have hcx4 := (hb4.cell (p := ad.add k) (by rw [addr_block]; have := hB.size; omega)).trans hcx
            clear RC hcx hb4 hB hcv
            rcases HR34.out with hr | hr
            · have q3 : (red == 3) = true := by rw [hr]; rfl
              have q4 : (red == 4) = false := by rw [hr]; rfl
              by_cases hc0 : cv < 0
              · have HNW := Lib.hid (N2.out (.inl ⟨hr, HL.out.1 hc0⟩))
                clear hr N2 N3 HL HM
                go_wp2
                go_roundw
                case rel => exact ⟨k + 1, by omega, by go_num, by rw [HNW.out], hB4⟩
                case measure => simp [intOf]; omega
              · have HNW := Lib.hid (N3.out (fun h => by
                  rcases h with h | h
                  · exact hc0 (HL.out.2 h.2)
                  · have := h.1; omega))
                clear hr N2 N3 HL HM
                go_wp2
                go_roundw
                case rel => exact ⟨k + 1, by omega, by go_num, by rw [HNW.out], hB4⟩
                case measure => simp [intOf]; omega
            · have q3 : (red == 3) = false := by rw [hr]; rfl
              have q4 : (red == 4) = true := by rw [hr]; rfl
              by_cases hc0 : 0 < cv
              · have HNW := Lib.hid (N2.out (.inr ⟨hr, HM.out.1 hc0⟩))
                clear hr N2 N3 HL HM
                go_wp2
                go_roundw
                case rel => exact ⟨k + 1, by omega, by go_num, by rw [HNW.out], hB4⟩
                case measure => simp [intOf]; omega
              · have HNW := Lib.hid (N3.out (fun h => by
                  rcases h with h | h
                  · have := h.1; omega
                  · exact hc0 (HM.out.2 h.2)))
                clear hr N2 N3 HL HM
                go_wp2
                go_roundw
                case rel => exact ⟨k + 1, by omega, by go_num, by rw [HNW.out], hB4⟩
                case measure => simp [intOf]; omega
      · obtain rfl : k = n := by omega
        have HTL : Hid (L.take k = L) := List.take_of_length_le (by rw [← HNN.out]; exact Nat.le_refl _)
        clear HAT HCELL
        go_wp2
        go_ret
        exact ⟨hB, by rw [← HQ.out, HR.out, HQ.out, HTL.out] <;> rfl⟩

set_option maxRecDepth 100000 in
set_option maxHeartbeats 6400000 in
theorem rreduced_any (L : List ByteArray) (red : Int) (v : Value) (w : World) (h : IsT w w.heap.size v L) (hL : L.length ≤ 5000) (hL2 : ∀ s ∈ L, s.size ≤ 300) :
    Calls Tryz.prog 48 #[v, .int .i64 red] w fun e w' => Below w.heap.size w w' ∧ e = .returned (.tuple #[.string (redR L red).1, .int .i64 (redR L red).2]) := by
  obtain ⟨A, c, rfl, hc⟩ := h.form
  have hr := h.rd
  have HAT : Hid (∀ k, k < L.length → ∃ s, L[k]? = some s ∧ s.size ≤ 4000000) := fun k hk => ⟨L[k], List.getElem?_eq_getElem hk, by have := hL2 _ (List.getElem_mem hk); omega⟩
  have HCELL := Lib.hid (fun k (hk : k < L.length) s (hs : L[k]? = some s) => show ∃ ad, A = some ad ∧ ad.block < w.heap.size ∧ w.cell? (ad.add k) = some (.string s) from by
    obtain ⟨ad, e, hab, hcx⟩ := hr.str hk
    rw [List.getElem?_eq_getElem hk] at hs
    injection hs with hs
    exact ⟨ad, e, hab, by rw [← hs]; exact hcx⟩)
  have HBAD : Hid ((∃ s ∈ L, valB s = false) → redR L red = (⟨#[]⟩, 2)) := fun ⟨s, h1, h2⟩ => if_neg fun h => by rw [h.1 s h1] at h2; cases h2
  have HARG : Hid (¬ (1 ≤ red ∧ red ≤ 5) → redR L red = (⟨#[]⟩, 2)) := fun h => if_neg fun h' => h h'.2
  have HOK : Hid ((∀ s ∈ L, valB s = true) → 1 ≤ red → red ≤ 5 → redR L red = (redT red (numsT L), 0)) := fun h h1 h5 => if_pos ⟨h, h1, h5⟩
  have RD := Lib.hid (fun W (hW : Below w.heap.size w W) hv h1 h5 => rreduction_any L red _ W (h.next hW) hL hL2 hv h1 h5)
  obtain ⟨n, hn⟩ : ∃ n, n = L.length := ⟨_, rfl⟩
  rw [← hn] at hL hc HAT HCELL RD ⊢
  have HN := Lib.hid hn
  generalize redR L red = R at *
  obtain ⟨R1, R2⟩ := R
  clear hn h hr hL2
  go_enter Tryz.func48, Tryz.ntmps48
  go_wp2_with fail
  go_loopw [6] (fun i wr => ∃ k : Nat, k ≤ n ∧ i = .int .i64 k ∧ Hid (∀ s ∈ L.take k, valB s = true) ∧ Below w.heap.size w wr) (fun i _ => n - (intOf i).toNat)
  case atStart => exact ⟨0, Nat.zero_le _, rfl, (fun s h => by simp at h), Below.refl _ _⟩
  case round =>
    obtain ⟨k, hk, rfl, HV, hB⟩ := hrel
    by_cases hlt : k < n
    · obtain ⟨s, hs, hss⟩ := HAT.out k hlt
      obtain ⟨ad, rfl, hab, hcx0⟩ := HCELL.out k hlt s hs
      have hcx := (hB.cell (p := ad.add k) (by rw [addr_block]; exact hab)).trans hcx0
      have RV := Lib.hid (rvalue_any s wr hss (valB s) (valB_iff s))
      cases hv : valB s
      · have hbad := HBAD.out ⟨s, List.mem_of_getElem? hs, hv⟩
        injection hbad with e1 e2
        subst e1
        subst e2
        rw [hv] at RV
        clear HAT HCELL HBAD HARG HOK hs hv hcx0 RD HV
        go_wp2_with fail
        refine RV.out.mono ?_
        rintro e w2 ⟨hb2, rfl⟩
        have hB2 := hB.trans (hb2.mono hB.size)
        clear RV hb2 hB hcx
        go_wp2
        go_ret2
        exact ⟨hB2, rfl⟩
      · have HV2 : Hid (∀ x ∈ L.take (k + 1), valB x = true) := fun x hx => by
          rw [List.take_add_one, hs] at hx
          rcases List.mem_append.1 hx with h | h
          · exact HV.out x h
          · simp at h; subst h; exact hv
        rw [hv] at RV
        clear HBAD HARG HOK hs hv hcx0 RD HV
        go_wp2_with fail
        refine RV.out.mono ?_
        rintro e w2 ⟨hb2, rfl⟩
        have hB2 := hB.trans (hb2.mono hB.size)
        clear RV hb2 hB hcx
        go_wp2
        go_roundw
        case rel => exact ⟨k + 1, by omega, by go_num, HV2.out, hB2⟩
        case measure => simp [intOf]; omega
    · obtain rfl : k = n := by omega
      have hvl : ∀ s ∈ L, valB s = true := by
        have := HV.out
        rwa [List.take_of_length_le (by rw [← HN.out]; exact Nat.le_refl _)] at this
      have IR := Lib.hid (risred_any red wr)
      by_cases hok : 1 ≤ red ∧ red ≤ 5
      · have hR := HOK.out hvl hok.1 hok.2
        injection hR with e1 e2
        subst e1
        subst e2
        have RR := Lib.hid (RD.out wr hB hvl hok.1 hok.2)
        rw [decide_eq_true hok] at IR
        clear HAT HCELL HBAD HARG HOK RD HV hvl hok
        go_wp2_with fail
        refine IR.out.mono ?_
        rintro e w2 ⟨rfl, rfl⟩
        go_wp2_with fail
        refine RR.out.mono ?_
        rintro e w3 ⟨hb3, rfl⟩
        go_wp2
        go_ret2
        exact ⟨hB.trans (hb3.mono hB.size), rfl⟩
      · have hR := HARG.out hok
        injection hR with e1 e2
        subst e1
        subst e2
        rw [decide_eq_false hok] at IR
        clear HAT HCELL HBAD HARG HOK RD HV hvl hok
        go_wp2_with fail
        refine IR.out.mono ?_
        rintro e w2 ⟨rfl, rfl⟩
        go_wp2
        go_ret2
        exact ⟨hB, rfl⟩

set_option maxRecDepth 100000 in
set_option maxHeartbeats 6400000 in
theorem preduced_any (L : List ByteArray) (red : Int) (v : Value) (w : World) (h : IsT w w.heap.size v L) (he : Env w) (her : EnvR w) (hL : L.length ≤ 5000) (hL2 : ∀ s ∈ L, s.size ≤ 300) :
    Calls Tryz.prog 47 #[v, .int .i64 red] w fun e w' => Below w.heap.size w w' ∧ e = .returned (.tuple #[.string (redR L red).1, .int .i64 (redR L red).2]) := by
  obtain ⟨A, c, rfl, hc⟩ := h.form
  obtain ⟨q, hq⟩ : ∃ b : Bool, b = true ↔ ∀ s ∈ L, IsVal s.data.toList := by classical exact ⟨decide _, decide_eq_true_iff⟩
  have VA := Lib.hid (values_any A c L w (by omega) h.rd (fun s hs => by have := hL2 s hs; omega) he q hq)
  have RD := Lib.hid (fun W (hW : Below w.heap.size w W) h1 h5 => reduced_any L red _ W (h.next hW) (he.next hW) (her.next hW) hL hL2 h1 h5)
  have HBAD : Hid (q = false → redR L red = (⟨#[]⟩, 2)) := fun h => if_neg fun h' => by
    have := hq.2 (fun s hs => (valB_iff s).1 (h'.1 s hs)); rw [h] at this; cases this
  have HARG : Hid (¬ (1 ≤ red ∧ red ≤ 5) → redR L red = (⟨#[]⟩, 2)) := fun h => if_neg fun h' => h h'.2
  have HOK : Hid (q = true → 1 ≤ red → red ≤ 5 → redR L red = (redT red (numsT L), 0)) := fun h h1 h5 => if_pos ⟨fun s hs => (valB_iff s).2 (hq.1 h s hs), h1, h5⟩
  have IR := Lib.hid (fun W => reduction_any red W)
  generalize redR L red = R at *
  obtain ⟨R1, R2⟩ := R
  clear h hL2 hq he her
  cases q
  · have hR := HBAD.out rfl
    injection hR with e1 e2
    subst e1
    subst e2
    clear HBAD HARG HOK RD IR
    go_enter Tryz.func47, Tryz.ntmps47
    go_wp2_with fail
    refine VA.out.mono ?_
    rintro e w2 ⟨hb2, rfl⟩
    go_wp2
    go_ret2
    exact ⟨hb2, rfl⟩
  · by_cases hok : 1 ≤ red ∧ red ≤ 5
    · have hR := HOK.out rfl hok.1 hok.2
      injection hR with e1 e2
      subst e1
      subst e2
      have RD2 := Lib.hid (fun W hW => RD.out W hW hok.1 hok.2)
      rw [decide_eq_true hok] at IR
      clear HBAD HARG HOK RD hok
      go_enter Tryz.func47, Tryz.ntmps47
      go_wp2_with fail
      refine VA.out.mono ?_
      rintro e w2 ⟨hb2, rfl⟩
      go_wp2_with fail
      refine (IR.out w2).mono ?_
      rintro e w3 ⟨rfl, rfl⟩
      go_wp2_with fail
      refine (RD2.out w2 hb2).mono ?_
      rintro e w4 ⟨hb4, rfl⟩
      go_wp2
      go_ret2
      exact ⟨hb2.trans (hb4.mono hb2.size), rfl⟩
    · have hR := HARG.out hok
      injection hR with e1 e2
      subst e1
      subst e2
      rw [decide_eq_false hok] at IR
      clear HBAD HARG HOK RD hok
      go_enter Tryz.func47, Tryz.ntmps47
      go_wp2_with fail
      refine VA.out.mono ?_
      rintro e w2 ⟨hb2, rfl⟩
      go_wp2_with fail
      refine (IR.out w2).mono ?_
      rintro e w3 ⟨rfl, rfl⟩
      go_wp2
      go_ret2
      exact ⟨hb2, rfl⟩
end Go.Proofs.YtgnffedncjjkfaaGreatDoor
