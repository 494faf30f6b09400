/-
  Plain law: reductions of lists of numbers.
  Walks: ratio.Frac's Cmp, Text, Value; slices.MinFunc, MaxFunc at ratio.Frac.
  Walks: slices.MinFunc, MaxFunc at ratio.Frac.
  Walks: array.reduction, array.reduced, array.Reduced.
  Walks: the reference's Put, Total, FromInt, two, Compare, isReduction.
  Walks: the reference's two, Compare, Reduction, Reduced; array.Reduced.
  Walks: Reduction, Reduced of the reference; array.Reduced.
-/
import Derived.Test.YtpkhgdnkkdhlcaaGreatDoorNsX
import Derived.Test.YtpkhgdnkkdhlcaaGreatDoorValA
import Derived.Test.YtpkhgdnkkdhlcaaGreatDoorValR
import Derived.Test.YtpkhgdnkkdhlcaaGreatDoorTxtS
import Derived.Test.YtpkhgdnkkdhlcaaGreatDoorBoxW
import Derived.Test.YtpkhgdnkkdhlcaaGreatDoorHlX
import Derived.Test.YtpkhgdnkkdhlcaaGreatDoorQqX
namespace Go.Proofs.YtpkhgdnkkdhlcaaGreatDoor
open Go.RowKit Ar

noncomputable def numB (s : ByteArray) : Bool := @decide (IsNum s.data.toList) (Classical.propDecidable _)
theorem numB_iff (s : ByteArray) : numB s = true ↔ IsNum s.data.toList := by unfold numB; exact @decide_eq_true_iff _ (Classical.propDecidable _)
/-- The numbers among texts. -/
noncomputable def numT (s : ByteArray) : List Rat := if numB s then [textRat s.data.toList] else []
noncomputable def numsT (L : List ByteArray) : List Rat := L.flatMap numT
theorem numsT_app (L M : List ByteArray) : numsT (L ++ M) = numsT L ++ numsT M := List.flatMap_append
theorem numsT_snoc (L : List ByteArray) (s : ByteArray) : numsT (L ++ [s]) = numsT L ++ numT s := by simp [numsT]
theorem numT_len (s : ByteArray) : (numT s).length ≤ 1 := by unfold numT; split <;> simp
theorem numsT_len (L : List ByteArray) : (numsT L).length ≤ L.length := by
  induction L with
  | nil => exact Nat.le_refl _
  | cons s L ih =>
    have := numT_len s
    show (numT s ++ numsT L).length ≤ L.length + 1
    rw [List.length_append]; omega
theorem numT_rev (s : ByteArray) : (numT s).reverse = numT s := by unfold numT; split <;> rfl
theorem numsT_rev (L : List ByteArray) : numsT L.reverse = (numsT L).reverse := by
  induction L with
  | nil => rfl
  | cons s L ih =>
    rw [List.reverse_cons, numsT_snoc, ih]
    show _ = (numT s ++ numsT L).reverse
    rw [List.reverse_append, numT_rev]
/-- A number with at most 40 digits above and below. -/
def Short (q : Rat) : Prop := (Lib.decDigits (nm q)).length ≤ 40 ∧ (Lib.decDigits (dn q)).length ≤ 40
instance (q : Rat) : Decidable (Short q) := inferInstanceAs (Decidable (_ ∧ _))
/-- A number's text, or none if it is too long. -/
def putT (q : Rat) : ByteArray := if Short q then ⟨(ratText q).toArray⟩ else ⟨#[]⟩
theorem ba_list {a b : ByteArray} (h : a.data.toList = b.data.toList) : a = b := by
  cases a; cases b; congr 1; exact Array.toList_inj.1 h
theorem num_text {s : ByteArray} (h : numB s = true) : ratText (textRat s.data.toList) = s.data.toList := ratText_textRat ((numB_iff s).1 h).1
theorem num_short {s : ByteArray} (h : numB s = true) : Short (textRat s.data.toList) := by
  refine (isNum_text _).1 ?_
  rw [num_text h]
  exact (numB_iff s).1 h
theorem num_put {s : ByteArray} (h : numB s = true) : putT (textRat s.data.toList) = s := by
  unfold putT
  rw [if_pos (num_short h), num_text h]
theorem put_num {q : Rat} (h : Short q) : numB (putT q) = true ∧ textRat (putT q).data.toList = q := by
  unfold putT
  rw [if_pos h]
  refine ⟨(numB_iff _).2 ?_, ?_⟩
  · show IsNum (ratText q).toArray.toList
    exact (isNum_text q).2 h
  · show textRat (ratText q).toArray.toList = q
    exact (isText_ratText q).2
theorem numsT_mem {L : List ByteArray} {q : Rat} (h : q ∈ numsT L) : ∃ s ∈ L, numB s = true ∧ q = textRat s.data.toList := by
  obtain ⟨s, hs, hq⟩ := List.mem_flatMap.1 h
  unfold numT at hq
  split at hq
  · rename_i hn
    exact ⟨s, hs, hn, by simpa using hq⟩
  · cases hq
theorem numsT_short {L : List ByteArray} {q : Rat} (h : q ∈ numsT L) : Short q := by
  obtain ⟨s, _, hn, rfl⟩ := numsT_mem h
  exact num_short hn
theorem num_sz {s : ByteArray} (h : numB s = true) : sz (textRat s.data.toList) ≤ 200 := by
  have hn := (numB_iff s).1 h
  have := sz_plain (text_plain hn.1) (M := 82) (isNum_len hn)
  omega
theorem numsT_sz {L : List ByteArray} {q : Rat} (h : q ∈ numsT L) : sz q ≤ 200 := by
  obtain ⟨s, _, hn, rfl⟩ := numsT_mem h
  exact num_sz hn
/-- Better: less for 3, greater for 4. -/
def Better (red : Int) (q m : Rat) : Prop := (red = 3 ∧ q < m) ∨ (red = 4 ∧ m < q)
instance (red : Int) (q m : Rat) : Decidable (Better red q m) := inferInstanceAs (Decidable (_ ∨ _))
def upd (red : Int) : Option Rat → Rat → Option Rat
  | none, q => some q
  | some m, q => if Better red q m then some q else some m
/-- The least or greatest number. -/
def bst (red : Int) (l : List Rat) : Option Rat := l.foldl (upd red) none
theorem bst_snoc (red : Int) (l : List Rat) (q : Rat) : bst red (l ++ [q]) = upd red (bst red l) q := by unfold bst; rw [List.foldl_append]; rfl
theorem bst_from {red : Int} (hr : red = 3 ∨ red = 4) : ∀ (l : List Rat) (m0 : Rat), ∃ m, l.foldl (upd red) (some m0) = some m ∧ (m = m0 ∨ m ∈ l) ∧ ¬ Better red m0 m ∧ ∀ q ∈ l, ¬ Better red q m
  | [], m0 => ⟨m0, rfl, .inl rfl, by unfold Better; grind, fun q h => by cases h⟩
  | q :: l, m0 => by
    by_cases hb : Better red q m0
    · obtain ⟨m, h1, h2, h3, h4⟩ := bst_from hr l q
      refine ⟨m, ?_, ?_, ?_, ?_⟩
      · show l.foldl (upd red) (upd red (some m0) q) = _
        rw [show upd red (some m0) q = some q from if_pos hb]; exact h1
      · rcases h2 with h | h
        · exact .inr (by rw [h]; exact List.mem_cons_self)
        · exact .inr (List.mem_cons_of_mem _ h)
      · unfold Better at hb h3 ⊢; grind
      · intro x hx
        rcases List.mem_cons.1 hx with rfl | h
        · exact h3
        · exact h4 x h
    · obtain ⟨m, h1, h2, h3, h4⟩ := bst_from hr l m0
      refine ⟨m, ?_, ?_, h3, ?_⟩
      · show l.foldl (upd red) (upd red (some m0) q) = _
        rw [show upd red (some m0) q = some m0 from if_neg hb]; exact h1
      · rcases h2 with h | h
        · exact .inl h
        · exact .inr (List.mem_cons_of_mem _ h)
      · intro x hx
        rcases List.mem_cons.1 hx with rfl | h
        · unfold Better at hb h3 ⊢; grind
        · exact h4 x h
theorem bst_some {red : Int} (hr : red = 3 ∨ red = 4) {l : List Rat} (h : l ≠ []) : ∃ m, bst red l = some m ∧ m ∈ l ∧ ∀ q ∈ l, ¬ Better red q m := by
  match l, h with
  | q :: l, _ =>
    obtain ⟨m, h1, h2, h3, h4⟩ := bst_from hr l q
    refine ⟨m, h1, ?_, ?_⟩
    · rcases h2 with h | h
      · rw [h]; exact List.mem_cons_self
      · exact List.mem_cons_of_mem _ h
    · intro x hx
      rcases List.mem_cons.1 hx with rfl | h
      · exact h3
      · exact h4 x h
theorem bst_eq {red : Int} (hr : red = 3 ∨ red = 4) {l : List Rat} {m : Rat} (h : m ∈ l) (hm : ∀ q ∈ l, ¬ Better red q m) : bst red l = some m := by
  obtain ⟨m', h1, h2, h3⟩ := bst_some hr (l := l) (List.ne_nil_of_mem h)
  rw [h1]
  have a1 := h3 m h
  have a2 := hm m' h2
  congr 1
  unfold Better at a1 a2
  grind
theorem bst_nil (red : Int) : bst red [] = none := rfl
theorem bst_none {red : Int} (hr : red = 3 ∨ red = 4) {l : List Rat} (h : bst red l = none) : l = [] := by
  by_cases h0 : l = []
  · exact h0
  · obtain ⟨m, h1, _⟩ := bst_some hr h0
    rw [h] at h1; cases h1
theorem bst_mem {red : Int} (hr : red = 3 ∨ red = 4) {l : List Rat} {m : Rat} (h : bst red l = some m) : m ∈ l := by
  by_cases h0 : l = []
  · rw [h0] at h; cases h
  · obtain ⟨m', h1, h2, _⟩ := bst_some hr h0
    rw [h] at h1; injection h1 with h1; rw [h1]; exact h2
theorem bst_rev {red : Int} (hr : red = 3 ∨ red = 4) (l : List Rat) : bst red l.reverse = bst red l := by
  by_cases h0 : l = []
  · rw [h0]; rfl
  · obtain ⟨m, h1, h2, h3⟩ := bst_some hr h0
    rw [h1]
    exact bst_eq hr (List.mem_reverse.2 h2) (fun q hq => h3 q (List.mem_reverse.1 hq))
theorem rsum_rev (l : List Rat) : rsum l.reverse = rsum l := by
  induction l with
  | nil => rfl
  | cons q l ih =>
    rw [List.reverse_cons, rsum_app, ih]
    show rsum l + (q + 0) = q + rsum l
    grind
/-- The text of a reduction. -/
def redT (red : Int) (l : List Rat) : ByteArray :=
  if red = 5 then putT ((l.length : Int) : Rat) else if red = 1 then putT (rsum l) else if l = [] then ⟨#[]⟩
  else if red = 2 then putT (rsum l / ((l.length : Int) : Rat)) else match bst red l with | none => ⟨#[]⟩ | some m => putT m
theorem redT_rev {red : Int} (h1 : 1 ≤ red) (h5 : red ≤ 5) (l : List Rat) : redT red l.reverse = redT red l := by
  unfold redT
  rw [List.length_reverse, rsum_rev]
  by_cases h0 : l = []
  · rw [h0]; rfl
  · have h0' : l.reverse ≠ [] := fun h => h0 (List.reverse_eq_nil_iff.1 h)
    rw [if_neg h0, if_neg h0']
    by_cases e5 : red = 5
    · rw [if_pos e5, if_pos e5]
    · by_cases e1 : red = 1
      · rw [if_neg e5, if_neg e5, if_pos e1, if_pos e1]
      · by_cases e2 : red = 2
        · rw [if_neg e5, if_neg e5, if_neg e1, if_neg e1, if_pos e2, if_pos e2]
        · rw [if_neg e5, if_neg e5, if_neg e1, if_neg e1, if_neg e2, if_neg e2, bst_rev (by omega)]
/-- What is said of the reduction of texts: a text, and the error. -/
noncomputable def redR (L : List ByteArray) (red : Int) : ByteArray × Int := if (∀ s ∈ L, valB s = true) ∧ 1 ≤ red ∧ red ≤ 5 then (redT red (numsT L), 0) else (⟨#[]⟩, 2)
theorem redR_rev (L : List ByteArray) (red : Int) : redR L.reverse red = redR L red := by
  unfold redR
  have e : (∀ s ∈ L.reverse, valB s = true) ↔ (∀ s ∈ L, valB s = true) := ⟨fun h s hs => h s (List.mem_reverse.2 hs), fun h s hs => h s (List.mem_reverse.1 hs)⟩
  by_cases h : (∀ s ∈ L, valB s = true) ∧ 1 ≤ red ∧ red ≤ 5
  · rw [if_pos h, if_pos ⟨e.2 h.1, h.2⟩, numsT_rev, redT_rev h.2.1 h.2.2]
  · rw [if_neg h, if_neg (fun h' => h ⟨e.1 h'.1, h'.2⟩)]
end Go.Proofs.YtpkhgdnkkdhlcaaGreatDoor

namespace Go.Proofs.YtpkhgdnkkdhlcaaGreatDoor
open Go.RowKit Ar

theorem lessQ (p q : Rat) : sgQ (p - q) < 0 ↔ p < q := by unfold sgQ; split <;> (try split) <;> grind
theorem moreQ (p q : Rat) : 0 < sgQ (p - q) ↔ q < p := by unfold sgQ; split <;> (try split) <;> grind

set_option maxRecDepth 100000 in
set_option maxHeartbeats 1600000 in
theorem fcmp_any (p q : Rat) (v u : Value) (w : World) (h : IsF w w.heap.size v p) (h' : IsF w w.heap.size u q) (hl : sz p ≤ 100000000000) (hl' : sz q ≤ 100000000000) :
    Calls Tryz.prog 135 #[v, u] w fun e w' => Below w.heap.size w w' ∧ e = .returned (.int .i64 (sgQ (p - q))) := by
  obtain ⟨s1, A1, l1, c1, A2, l2, c2, rfl⟩ := h.form
  obtain ⟨s2, A3, l3, c3, A4, l4, c4, rfl⟩ := h'.form
  go_enter Tryz.func135, Tryz.ntmps135
  go_wp2_with fail
  have hb0 : Below w.heap.size w ((w.alloc (.cells #[.bool s1, .slice A1 l1 c1, .slice A2 l2 c2] 102)).alloc (.cells #[.bool s2, .slice A3 l3 c3, .slice A4 l4 c4] 102)) := (below_alloc w _).alloc (by simp) _
  refine (fsub_any p q _ _ _ (h.next hb0) (h'.next hb0) (by omega) (by omega)).mono ?_
  rintro e w1 ⟨hb1, x1, rfl, hx1⟩
  have hB1 := hb0.trans (hb1.mono hb0.size)
  go_wp2_with fail
  refine (fsign_any (p - q) _ _ hx1).mono ?_
  rintro e w2 ⟨hb2, rfl⟩
  go_wp2
  go_ret
  exact ⟨hB1.trans (hb2.mono hB1.size), rfl⟩
set_option maxRecDepth 100000 in
set_option maxHeartbeats 3200000 in
theorem ftext_any (p : Rat) (v : Value) (w : World) (h : IsF w w.heap.size v p) (hl : sz p ≤ 100000000) (her : EnvR w) :
    Calls Tryz.prog 188 #[v] w fun e w' => Below w.heap.size w w' ∧ ∃ ok, e = .returned (.tuple #[.string (putT p), .bool ok]) := by
  have hh := h
  obtain ⟨N1, D1, rfl, hN1, hD1⟩ := h
  obtain ⟨A1, l1, c1, rfl⟩ := hN1.form
  obtain ⟨A2, l2, c2, rfl⟩ := hD1.form
  have hln := sz_nm p
  have hld := sz_dn p
  obtain ⟨X, hX⟩ : ∃ X : ByteArray, X = ⟨(Lib.decDigits (nm p)).toArray⟩ := ⟨_, rfl⟩
  obtain ⟨Y, hY⟩ : ∃ Y : ByteArray, Y = ⟨(Lib.decDigits (dn p)).toArray⟩ := ⟨_, rfl⟩
  have hXs : X.size = (Lib.decDigits (nm p)).length := by rw [hX, mk_size']
  have hYs : Y.size = (Lib.decDigits (dn p)).length := by rw [hY, mk_size']
  have hB0 := below_alloc w (.cells #[.bool (sg p), .slice A1 l1 c1, .slice A2 l2 c2] 102)
  have k0 := Bk.new w 102 #[.bool (sg p), .slice A1 l1 c1, .slice A2 l2 c2]
  have SN := Lib.hid (fun W (hW : Below w.heap.size w W) => show Calls Tryz.prog 215 #[.slice A1 l1 c1] W fun e w' => Below W.heap.size W w' ∧ e = .returned (.string X) from by
    rw [hX]; exact nstr_any (nm p) _ W (hN1.next hW) (by omega) (her.next hW))
  have SD := Lib.hid (fun W (hW : Below w.heap.size w W) => show Calls Tryz.prog 215 #[.slice A2 l2 c2] W fun e w' => Below W.heap.size W w' ∧ e = .returned (.string Y) from by
    rw [hY]; exact nstr_any (dn p) _ W (hD1.next hW) (by omega) (her.next hW))
  have LG := Lib.hid (fun W (hW : Below w.heap.size w W) => flong_any p _ W (hh.next hW) (by omega) (her.next hW))
  have HP1 : Hid (X.size ≤ 40 ∧ Y.size ≤ 40 → putT p = ⟨(ratText p).toArray⟩) := fun h => if_pos ⟨by rw [← hXs]; exact h.1, by rw [← hYs]; exact h.2⟩
  have HP0 : Hid (¬ (X.size ≤ 40 ∧ Y.size ≤ 40) → putT p = ⟨#[]⟩) := fun h => if_neg fun h' => h ⟨by rw [hXs]; exact h'.1, by rw [hYs]; exact h'.2⟩
  clear hX hY hXs hYs hN1 hD1 hh her
  generalize putT p = R at *
  generalize (⟨(ratText p).toArray⟩ : ByteArray) = R1 at *
  generalize sg p = s at *
  go_enter Tryz.func188, Tryz.ntmps188
  go_wp2_with fail
  generalize w.alloc (.cells #[.bool s, .slice A1 l1 c1, .slice A2 l2 c2] 102) = W0 at *
  obtain ⟨d0, d1, d2⟩ := bk3 k0
  go_wp2_with fail
  refine (SN.out W0 hB0).mono ?_
  rintro e w1 ⟨hb1, rfl⟩
  have k1 := k0.below hb1 k0.lt
  have hB1 := hB0.trans (hb1.mono hB0.size)
  clear d0 d1 d2 k0 hB0 hb1 SN
  obtain ⟨d0, d1, d2⟩ := bk3 k1
  by_cases hx : X.size ≤ 40
  · have e1 : ¬ (40 : Int) < (X.size : Int) := by omega
    go_wp2_with fail
    refine (SD.out w1 hB1).mono ?_
    rintro e w2 ⟨hb2, rfl⟩
    have k2 := k1.below hb2 k1.lt
    have hB2 := hB1.trans (hb2.mono hB1.size)
    clear d0 d1 d2 k1 hB1 hb2 SD
    obtain ⟨d0, d1, d2⟩ := bk3 k2
    by_cases hy : Y.size ≤ 40
    · have e2 : ¬ (40 : Int) < (Y.size : Int) := by omega
      have hR := HP1.out ⟨hx, hy⟩
      subst hR
      go_wp2_with fail
      refine (LG.out w2 hB2).mono ?_
      rintro e w3 ⟨hb3, rfl⟩
      go_wp2
      go_ret2
      exact ⟨hB2.trans (hb3.mono hB2.size), _, rfl⟩
    · have e2 : (40 : Int) < (Y.size : Int) := by omega
      have hR := HP0.out (fun h => hy h.2)
      subst hR
      go_wp2
      go_ret2
      exact ⟨hB2, _, rfl⟩
  · have e1 : (40 : Int) < (X.size : Int) := by omega
    have hR := HP0.out (fun h => hx h.1)
    subst hR
    go_wp2
    go_ret2
    exact ⟨hB1, _, rfl⟩
set_option maxRecDepth 100000 in
set_option maxHeartbeats 3200000 in
theorem fval_any (p : Rat) (v : Value) (w : World) (h : IsF w w.heap.size v p) (hl : sz p ≤ 100000000) (her : EnvR w) :
    Calls Tryz.prog 136 #[v] w fun e w' => Below w.heap.size w w' ∧ e = .returned (.string (putT p)) := by
  obtain ⟨s1, A1, l1, c1, A2, l2, c2, rfl⟩ := h.form
  have hB0 := below_alloc w (.cells #[.bool s1, .slice A1 l1 c1, .slice A2 l2 c2] 102)
  have TX := Lib.hid (ftext_any p _ _ (h.next hB0) hl (her.next hB0))
  clear h her
  generalize putT p = R at *
  go_enter Tryz.func136, Tryz.ntmps136
  go_wp2_with fail
  refine TX.out.mono ?_
  rintro e w1 ⟨hb1, ok, rfl⟩
  go_wp2
  go_ret
  exact ⟨hB0.trans (hb1.mono hB0.size), rfl⟩
theorem IsFs.at_ {w : World} {B n c : Nat} {A : Option Addr} {l : List Rat} (h : IsFs w B (.slice A n c) l) {k : Nat} {q : Rat} (hq : l[k]? = some q) : ∃ ad t A' l' c' A'' l'' c'', A = some ad ∧ ad.block < B ∧ Thr w (ad.add (k * 3)) ⟨t, .slice A' l' c', .slice A'' l'' c''⟩ ∧ IsF w B (.agg #[.bool t, .slice A' l' c', .slice A'' l'' c'']) q := by
  obtain ⟨A', c', S, e, h1, h2, h3, h4⟩ := h
  simp only [Value.slice.injEq] at e
  obtain ⟨rfl, -, -⟩ := e
  obtain ⟨s, k1, k2⟩ := h4 k q hq
  obtain ⟨ad, e, hb, ht⟩ := h3.fracAt k1
  obtain ⟨t, A1, l1, c1, A2, l2, c2, rfl⟩ := k2.form
  exact ⟨ad, t, A1, l1, c1, A2, l2, c2, e, hb, ht, k2⟩
/-- A number of the program in a block. -/
def FAt (w : World) (b : Nat) (q : Rat) : Prop := ∃ s A l c A' l' c', Bk w b 102 #[.bool s, .slice A l c, .slice A' l' c'] ∧ IsF w w.heap.size (.agg #[.bool s, .slice A l c, .slice A' l' c']) q
theorem FAt.next {w w' : World} {b : Nat} {q : Rat} (h : FAt w b q) (hb : Below w.heap.size w w') : FAt w' b q := by
  obtain ⟨s, A, l, c, A', l', c', h1, h2⟩ := h
  exact ⟨s, A, l, c, A', l', c', h1.below hb h1.lt, h2.next hb⟩
theorem FAt.lt {w : World} {b : Nat} {q : Rat} (h : FAt w b q) : b < w.heap.size := by
  obtain ⟨s, A, l, c, A', l', c', h1, h2⟩ := h
  exact h1.lt
end Go.Proofs.YtpkhgdnkkdhlcaaGreatDoor

namespace Go.Proofs.YtpkhgdnkkdhlcaaGreatDoor
open Go.RowKit Ar

end Go.Proofs.YtpkhgdnkkdhlcaaGreatDoor

namespace Go.Proofs.YtpkhgdnkkdhlcaaGreatDoor
open Go.RowKit Ar

theorem zfrac_no : ∀ u ∈ (Value.agg #[.bool false, .slice none 0 0, .slice none 0 0]).cells.toList, noInt u := by
  intro u hu k i e
  subst e
  simp [Value.cells] at hu
theorem new_cells3 (w : World) (T : TypeId) (a b c : Value) (j : Nat) (u : Value) (h : [a, b, c][j]? = some u) : (w.alloc (.cells #[a, b, c] T)).cell? ((⟨w.heap.size, 0, none⟩ : Addr).add j) = some u := by
  have k := (Bk.new w T #[a, b, c]).cell (0 + j)
  rw [addr_mk, k]
  simpa using h
end Go.Proofs.YtpkhgdnkkdhlcaaGreatDoor

namespace Go.Proofs.YtpkhgdnkkdhlcaaGreatDoor
open Go.RowKit Ar

theorem rput_any (p : Rat) (v : Value) (w : World) (h : IsQ w w.heap.size v p) (hl : sz p ≤ 100000000) :
    Calls Tryz.prog 89 #[v] w fun e w' => Below w.heap.size w w' ∧ e = .returned (.string (putT p)) := by
  obtain ⟨s, A, l, c, A', l', c', rfl⟩ := h.form
  have hA := below_alloc w (.cells #[.bool s, .slice A l c, .slice A' l' c'] 74)
  have kA := Bk.new w 74 #[Value.bool s, .slice A l c, .slice A' l' c']
  have RT := Lib.hid (rtext_any p _ _ (h.next hA) (by omega) (decide (Short p)) (by unfold Short; exact decide_eq_true_iff))
  obtain ⟨d0, d1, d2⟩ := bk3 kA
  clear h
  go_enter Tryz.func89, Tryz.ntmps89
  go_wp2_with fail
  refine RT.out.mono ?_
  rintro e w1 ⟨hb1, x, rfl, hx⟩
  have e1 : x = putT p := by
    unfold putT
    by_cases hp : Short p
    · rw [if_pos hp]; exact hx.1 (decide_eq_true hp)
    · rw [if_neg hp]; exact hx.2 (decide_eq_false hp)
  subst e1
  have hB := hA.trans (hb1.mono hA.size)
  clear hx hA hb1 kA d0 d1 d2
  go_wp2
  go_ret
  exact ⟨hB, rfl⟩

theorem rfromint_any (n : Nat) (w : World) (hn : n ≤ 100000) :
    Calls Tryz.prog 74 #[.int .i64 n] w fun e w' => Below w.heap.size w w' ∧ e = .returned (.string (putT (((n : Nat) : Int) : Rat))) := by
  have hs : sz (((n : Nat) : Int) : Rat) ≤ 1 := sz_small _ (by omega)
  go_enter Tryz.func74, Tryz.ntmps74
  go_wp2_with fail
  refine (intQ_any (n : Int) w (by omega)).mono ?_
  rintro e w1 ⟨hb1, v, rfl, hv⟩
  go_wp2_with fail
  refine (rput_any _ v w1 hv (by omega)).mono ?_
  rintro e w2 ⟨hb2, rfl⟩
  go_wp2
  go_ret
  exact ⟨hb1.trans (hb2.mono hb1.size), rfl⟩

theorem rsum_snoc (l : List Rat) (q : Rat) : rsum (l ++ [q]) = rsum l + q := by
  rw [rsum_app]; show _ + (q + 0) = _; grind
end Go.Proofs.YtpkhgdnkkdhlcaaGreatDoor

namespace Go.Proofs.YtpkhgdnkkdhlcaaGreatDoor
open Go.RowKit Ar

set_option maxRecDepth 100000 in
set_option maxHeartbeats 6400000 in
theorem rtwo_any (s t : ByteArray) (w : World) (hs : s.size ≤ 4000000) (ht : t.size ≤ 4000000) :
    Calls Tryz.prog 87 #[.string s, .string t] w fun e w' => Below w.heap.size w w' ∧ ∃ u v, e = .returned (.tuple #[u, v, .bool (numB s && numB t)]) ∧ GotQ (numB s) u w' (textRat s.data.toList) ∧ GotQ (numB t) v w' (textRat t.data.toList) := by
  have hsz0 : (w.alloc (.cells #[.bool false, .slice none 0 0, .slice none 0 0] 74)).heap.size = w.heap.size + 1 := by simp
  have hB0 := (below_alloc w (.cells #[.bool false, .slice none 0 0, .slice none 0 0] 74)).alloc (by simp) (.cells #[.bool false, .slice none 0 0, .slice none 0 0] 74)
  have kr0 := (Bk.new w 74 #[Value.bool false, .slice none 0 0, .slice none 0 0]).alloc (.cells #[.bool false, .slice none 0 0, .slice none 0 0] 74)
  have ks0 := Bk.new2 w (.cells #[.bool false, .slice none 0 0, .slice none 0 0] 74) 74 #[Value.bool false, .slice none 0 0, .slice none 0 0]
  clear hsz0
  go_enter Tryz.func87, Tryz.ntmps87
  go_wp2_with fail
  generalize ((w.alloc (.cells #[.bool false, .slice none 0 0, .slice none 0 0] 74)).alloc (.cells #[.bool false, .slice none 0 0, .slice none 0 0] 74)) = W0 at *
  refine (rget_any s W0 hs (numB s) (numB_iff s)).mono ?_
  rintro e w2 ⟨hb2, gv, rfl, ⟨p0, hp0⟩, hg⟩
  obtain ⟨gb, gA, gn, gc, gA', gn', gc', rfl⟩ := hp0.form
  have hB2 := hB0.trans (hb2.mono hB0.size)
  have hA2 := below_alloc w2 (.cells #[.bool gb, .slice gA gn gc, .slice gA' gn' gc'] 74)
  have hB3 := hB2.trans (hA2.mono hB2.size)
  have kr3 := (kr0.next' hb2).next' hA2
  have ks3 := (ks0.next' hb2).next' hA2
  have kg3 := Bk.new w2 74 #[Value.bool gb, .slice gA gn gc, .slice gA' gn' gc']
  have hp3 := hp0.next hA2
  have HG3 := Lib.hid (fun h => (hg h).next hA2)
  have hB2s : w.heap.size + 2 ≤ w2.heap.size := by have := hb2.size; have := ks0.lt; omega
  clear kr0 ks0 hB0 hb2 hA2 hp0 hg hB2
  go_wp2_with fail
  generalize w2.alloc (.cells #[.bool gb, .slice gA gn gc, .slice gA' gn' gc'] 74) = w3 at *
  refine (rget_any t w3 ht (numB t) (numB_iff t)).mono ?_
  rintro e w4 ⟨hb4, xv, rfl, ⟨p1, hp1⟩, hx⟩
  obtain ⟨xb, xA, xn, xc, xA', xn', xc', rfl⟩ := hp1.form
  have hB4 := hB3.trans (hb4.mono hB3.size)
  have hA4 := below_alloc w4 (.cells #[.bool xb, .slice xA xn xc, .slice xA' xn' xc'] 74)
  have hB5 := hB4.trans (hA4.mono hB4.size)
  have hB4s : w2.heap.size + 1 ≤ w4.heap.size := by have := hb4.size; have := kg3.lt; omega
  have kr5 := (kr3.next' hb4).next' hA4
  have ks5 := (ks3.next' hb4).next' hA4
  have kg5 := (kg3.next' hb4).next' hA4
  have kx5 := Bk.new w4 74 #[Value.bool xb, .slice xA xn xc, .slice xA' xn' xc']
  have hp5 := (hp3.next hb4).next hA4
  have HG5 := Lib.hid (fun h => ((HG3.out h).next hb4).next hA4)
  have hq5 := hp1.next hA4
  have HX5 := Lib.hid (fun h => (hx h).next hA4)
  obtain ⟨r0, r1, r2⟩ := bk3 kr5
  obtain ⟨s0, s1, s2⟩ := bk3 ks5
  obtain ⟨g0, g1, g2⟩ := bk3 kg5
  obtain ⟨x0, x1, x2⟩ := bk3 kx5
  have rf0 := kr5.frozen 0
  have rf1 := kr5.frozen 1
  have rf2 := kr5.frozen 2
  have sf0 := ks5.frozen 0
  have sf1 := ks5.frozen 1
  have sf2 := ks5.frozen 2
  have hne1 : w2.heap.size ≠ w.heap.size := by have := hB2s; omega
  have hne2 : w2.heap.size ≠ w.heap.size + 1 := by have := hB2s; omega
  have hne3 : w4.heap.size ≠ w.heap.size := by have := hB4s; omega
  have hne4 : w4.heap.size ≠ w.heap.size + 1 := by have := hB4s; omega
  clear kr3 ks3 kg3 hp3 HG3 hp1 hx hA4 hb4 hB3 hB4 hB2s hB4s
  go_wp2_with fail
  generalize w4.alloc (.cells #[.bool xb, .slice xA xn xc, .slice xA' xn' xc'] 74) = w5 at *
  generalize w4.heap.size = b9 at *
  generalize w2.heap.size = b7 at *
  have hne5 : w.heap.size ≠ w.heap.size + 1 := by omega
  have kR := set3_bk (x := .bool gb) (y := .slice gA gn gc) (z := .slice gA' gn' gc') kr5
  have ks6 : Bk (set3 w5 w.heap.size (.bool gb) (.slice gA gn gc) (.slice gA' gn' gc')) (w.heap.size + 1) 74 #[Value.bool false, .slice none 0 0, .slice none 0 0] := ((ks5.far (p := ⟨w.heap.size, 0, none⟩) (Ne.symm hne5) _).far (p := ⟨w.heap.size, 1, none⟩) (Ne.symm hne5) _).far (p := ⟨w.heap.size, 2, none⟩) (Ne.symm hne5) _
  have kS := (set3_bk (x := .bool xb) (y := .slice xA xn xc) (z := .slice xA' xn' xc') ks6).drew
  have kR7 : Bk ((set3 (set3 w5 w.heap.size (.bool gb) (.slice gA gn gc) (.slice gA' gn' gc')) (w.heap.size + 1) (.bool xb) (.slice xA xn xc) (.slice xA' xn' xc')).drew) w.heap.size 74 #[Value.bool gb, .slice gA gn gc, .slice gA' gn' gc'] := (((kR.far (p := ⟨w.heap.size + 1, 0, none⟩) hne5 (.bool xb)).far (p := ⟨w.heap.size + 1, 1, none⟩) hne5 (.slice xA xn xc)).far (p := ⟨w.heap.size + 1, 2, none⟩) hne5 (.slice xA' xn' xc')).drew
  have hB9 : Below w.heap.size w ((set3 (set3 w5 w.heap.size (.bool gb) (.slice gA gn gc) (.slice gA' gn' gc')) (w.heap.size + 1) (.bool xb) (.slice xA xn xc) (.slice xA' xn' xc')).drew) := (set3_below (set3_below hB5 (b := w.heap.size) (x := .bool gb) (y := .slice gA gn gc) (z := .slice gA' gn' gc') (Nat.le_refl _)) (b := w.heap.size + 1) (x := .bool xb) (y := .slice xA xn xc) (z := .slice xA' xn' xc') (by omega)).drew
  have hsz9 : (set3 (set3 w5 w.heap.size (.bool gb) (.slice gA gn gc) (.slice gA' gn' gc')) (w.heap.size + 1) (.bool xb) (.slice xA xn xc) (.slice xA' xn' xc')).heap.size = w5.heap.size := by rw [set3_size, set3_size]
  have HIS := Lib.hid (fun (u : Value) (q : Rat) (h : IsQ w5 w5.heap.size u q) => IsQ.drew (w := (set3 (set3 w5 w.heap.size (.bool gb) (.slice gA gn gc) (.slice gA' gn' gc')) (w.heap.size + 1) (.bool xb) (.slice xA xn xc) (.slice xA' xn' xc'))) (((h.set3 kr5 (.bool gb) (.slice gA gn gc) (.slice gA' gn' gc')).set3 ks6 (.bool xb) (.slice xA xn xc) (.slice xA' xn' xc')).more (Nat.le_of_eq hsz9.symm)))
  have hp9 := HIS.out _ _ hp5
  have hq9 := HIS.out _ _ hq5
  have HG9 := Lib.hid (fun h => HIS.out _ _ (HG5.out h))
  have HX9 := Lib.hid (fun h => HIS.out _ _ (HX5.out h))
  obtain ⟨y0, y1, y2⟩ := bk3 kR7
  obtain ⟨z0, z1, z2⟩ := bk3 kS
  clear kR ks6 kS kR7 hp5 hq5 HG5 HX5 HIS hsz9 kr5 ks5 hB5
  cases hns : numB s
  · go_region
    change Exit.then _ _ _ _ ((set3 (set3 w5 w.heap.size (.bool gb) (.slice gA gn gc) (.slice gA' gn' gc')) (w.heap.size + 1) (.bool xb) (.slice xA xn xc) (.slice xA' xn' xc')).drew)
    generalize ((set3 (set3 w5 w.heap.size (.bool gb) (.slice gA gn gc) (.slice gA' gn' gc')) (w.heap.size + 1) (.bool xb) (.slice xA xn xc) (.slice xA' xn' xc')).drew) = w9 at *
    go_wp2
    refine bodyPost_ret (v := .tuple #[.agg #[.bool gb, .slice gA gn gc, .slice gA' gn' gc'], .agg #[.bool xb, .slice xA xn xc, .slice xA' xn' xc'], .bool false]) (by simp [results, Tryz.results87, go_sem, y0, y1, y2, z0, z1, z2]) rfl ?_
    exact ⟨hB9, _, _, by rw [hns] <;> rfl, ⟨⟨p0, hp9⟩, HG9.out⟩, ⟨p1, hq9⟩, HX9.out⟩
  · go_region
    change Exit.then _ _ _ _ ((set3 (set3 w5 w.heap.size (.bool gb) (.slice gA gn gc) (.slice gA' gn' gc')) (w.heap.size + 1) (.bool xb) (.slice xA xn xc) (.slice xA' xn' xc')).drew)
    generalize ((set3 (set3 w5 w.heap.size (.bool gb) (.slice gA gn gc) (.slice gA' gn' gc')) (w.heap.size + 1) (.bool xb) (.slice xA xn xc) (.slice xA' xn' xc')).drew) = w9 at *
    go_wp2
    refine bodyPost_ret (v := .tuple #[.agg #[.bool gb, .slice gA gn gc, .slice gA' gn' gc'], .agg #[.bool xb, .slice xA xn xc, .slice xA' xn' xc'], .bool (numB t)]) (by simp [results, Tryz.results87, go_sem, y0, y1, y2, z0, z1, z2]) rfl ?_
    exact ⟨hB9, _, _, by rw [hns] <;> rfl, ⟨⟨p0, hp9⟩, HG9.out⟩, ⟨p1, hq9⟩, HX9.out⟩

theorem rcompare_any (s t : ByteArray) (w : World) (hs : s.size ≤ 4000000) (ht : t.size ≤ 4000000) (q : Bool) (hq : (numB s && numB t) = q) :
    Calls Tryz.prog 86 #[.string s, .string t] w fun e w' => Below w.heap.size w w' ∧ ∃ c : Int, e = .returned (.tuple #[.int .i64 c, .bool q]) ∧ (q = true → c = cmpQ (textRat s.data.toList) (textRat t.data.toList)) := by
  have HQ := Lib.hid hq
  have TW := rtwo_any s t w hs ht
  rw [hq] at TW
  clear hq
  go_enter Tryz.func86, Tryz.ntmps86
  go_wp2_with fail
  refine TW.mono ?_
  rintro e w2 ⟨hb2, gv, xv, rfl, ⟨⟨p0, hp0⟩, hg⟩, ⟨p1, hp1⟩, hx⟩
  obtain ⟨gb, gA, gn, gc, gA', gn', gc', rfl⟩ := hp0.form
  obtain ⟨xb, xA, xn, xc, xA', xn', xc', rfl⟩ := hp1.form
  have hA := (below_alloc w2 (.cells #[.bool gb, .slice gA gn gc, .slice gA' gn' gc'] 74)).alloc (by simp) (.cells #[.bool xb, .slice xA xn xc, .slice xA' xn' xc'] 74)
  have hB := hb2.trans (hA.mono hb2.size)
  have kg := (Bk.new w2 74 #[Value.bool gb, .slice gA gn gc, .slice gA' gn' gc']).alloc (.cells #[.bool xb, .slice xA xn xc, .slice xA' xn' xc'] 74)
  have kx := Bk.new2 w2 (.cells #[.bool gb, .slice gA gn gc, .slice gA' gn' gc'] 74) 74 #[Value.bool xb, .slice xA xn xc, .slice xA' xn' xc']
  cases q
  · clear TW hp0 hp1 hg hx kg kx HQ hA
    go_wp2
    go_ret2
    exact ⟨hB, _, rfl, fun h => (by cases h)⟩
  · obtain ⟨h1, h2⟩ := Bool.and_eq_true_iff.1 HQ.out
    have ss := num_sz h1
    have st := num_sz h2
    have CC := Lib.hid (qcmp_any _ _ _ _ _ ((hg h1).next hA) ((hx h2).next hA) (by omega) (by omega))
    obtain ⟨g0, g1, g2⟩ := bk3 kg
    obtain ⟨x0, x1, x2⟩ := bk3 kx
    clear TW hp0 hp1 hg hx kg kx HQ hA h1 h2
    go_wp2_with fail
    refine CC.out.mono ?_
    rintro e w4 ⟨hb4, rfl⟩
    have hB4 := hB.trans (hb4.mono hB.size)
    clear g0 g1 g2 x0 x1 x2 hb4 hB
    go_wp2
    go_ret2
    first | exact ⟨hB4, rfl⟩ | exact ⟨hB4, _, rfl, fun _ => rfl⟩
end Go.Proofs.YtpkhgdnkkdhlcaaGreatDoor

namespace Go.Proofs.YtpkhgdnkkdhlcaaGreatDoor
open Go.RowKit Ar

/-- The best text. -/
def bsT (red : Int) (l : List Rat) : ByteArray := match bst red l with | none => ⟨#[]⟩ | some m => putT m
theorem bsT_red {red : Int} (hr : red = 3 ∨ red = 4) (l : List Rat) : redT red l = bsT red l := by
  unfold redT bsT
  rw [if_neg (by omega), if_neg (by omega)]
  by_cases h : l = []
  · rw [if_pos h, h]; rfl
  · rw [if_neg h, if_neg (by omega)]
    all_goals (cases bst red l <;> rfl)
theorem noEmpty : numB ⟨#[]⟩ = false := by
  cases h : numB ⟨#[]⟩ with
  | false => rfl
  | true =>
    have h1 := ((numB_iff _).1 h).1
    exact absurd (isText_digs h1).2.2.1 (by decide)
theorem bsT_size {red : Int} (l : List Rat) : (bsT red l).size ≤ 4000000 := by
  have hp : ∀ q, (putT q).size ≤ 4000000 := fun q => by
    by_cases h : Short q
    · have := isNum_len ((numB_iff _).1 (put_num h).1)
      rw [size_list'] at this
      omega
    · unfold putT; rw [if_neg h]; decide
  unfold bsT
  split
  · decide
  · exact hp _
/-- The next best text. -/
theorem bsT_next {red : Int} (hr : red = 3 ∨ red = 4) {l : List Rat} (hl : ∀ q ∈ l, Short q) {s : ByteArray} (hs : numB s = true) :
    (numB (bsT red l) = false → bsT red (l ++ [textRat s.data.toList]) = s) ∧
    (numB (bsT red l) = true → Better red (textRat s.data.toList) (textRat (bsT red l).data.toList) → bsT red (l ++ [textRat s.data.toList]) = s) ∧
    (numB (bsT red l) = true → ¬ Better red (textRat s.data.toList) (textRat (bsT red l).data.toList) → bsT red (l ++ [textRat s.data.toList]) = bsT red l) := by
  cases h : bst red l with
  | none =>
    have e : bsT red l = ⟨#[]⟩ := by unfold bsT; rw [h]
    have e2 : bsT red (l ++ [textRat s.data.toList]) = s := by
      unfold bsT
      rw [bst_snoc, h]
      exact num_put hs
    rw [e, noEmpty]
    exact ⟨fun _ => e2, fun h => (by cases h), fun h => (by cases h)⟩
  | some m =>
    have hm := put_num (hl m (bst_mem hr h))
    have e : bsT red l = putT m := by unfold bsT; rw [h]
    rw [e, hm.1, hm.2]
    refine ⟨fun h => (by cases h), fun _ hb => ?_, fun _ hb => ?_⟩
    · unfold bsT
      rw [bst_snoc, h]
      show (match (if Better red (textRat s.data.toList) m then some (textRat s.data.toList) else some m) with | none => ⟨#[]⟩ | some m => putT m) = s
      rw [if_pos hb]
      exact num_put hs
    · unfold bsT
      rw [bst_snoc, h]
      show (match (if Better red (textRat s.data.toList) m then some (textRat s.data.toList) else some m) with | none => ⟨#[]⟩ | some m => putT m) = putT m
      rw [if_neg hb]

end Go.Proofs.YtpkhgdnkkdhlcaaGreatDoor

