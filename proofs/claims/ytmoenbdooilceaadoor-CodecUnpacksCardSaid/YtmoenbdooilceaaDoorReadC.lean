/-
  Walks: texts of numbers: the reading of integers.
-/
import Derived.Test.YtmoenbdooilceaaDoorReadB
import Derived.Test.YtmoenbdooilceaaDoorFracW
namespace Go.Proofs.YtmoenbdooilceaaDoor
open Go.RowKit Ar

theorem index_47 : ∀ l : List UInt8, (∀ m, cut47 l = (m, none) → Lib.index l [47] = -1) ∧ (∀ m r, cut47 l = (m, some r) → Lib.index l [47] = m.length ∧ l.take m.length = m ∧ l.drop (m.length + 1) = r)
  | [] => ⟨fun m h => rfl, fun m r h => by simp [cut47] at h⟩
  | b :: l => by
    obtain ⟨h1, h2⟩ := index_47 l
    by_cases hb : b = 47
    · subst hb
      refine ⟨fun m h => ?_, fun m r h => ?_⟩
      · simp [cut47] at h
      · simp only [cut47, if_true, Prod.mk.injEq, Option.some.injEq] at h
        obtain ⟨rfl, rfl⟩ := h
        refine ⟨?_, rfl, rfl⟩
        unfold Lib.index
        rw [if_pos (by rfl)]; rfl
    · have hp : ¬ ([47].isPrefixOf (b :: l) = true) := by
        simp [List.isPrefixOf, Ne.symm hb]
      refine ⟨fun m h => ?_, fun m r h => ?_⟩
      · simp only [cut47, if_neg hb, Prod.mk.injEq] at h
        have := h1 (cut47 l).1 (by rw [← h.2])
        unfold Lib.index
        rw [if_neg hp, this]; rfl
      · simp only [cut47, if_neg hb, Prod.mk.injEq] at h
        obtain ⟨e1, e2, e3⟩ := h2 (cut47 l).1 r (by rw [← h.2])
        rw [← h.1]
        refine ⟨?_, by simp [e2], by simpa using e3⟩
        unfold Lib.index
        rw [if_neg hp, e1, if_neg (by simp)]
        simp
theorem cut_47 (l : List UInt8) : Lib.cut l [47] = ((cut47 l).1, (cut47 l).2.getD [], (cut47 l).2.isSome) := by
  obtain ⟨h1, h2⟩ := index_47 l
  unfold Lib.cut
  cases hc : (cut47 l).2 with
  | none =>
    rw [h1 (cut47 l).1 (by rw [← hc]), if_neg (by decide)]
    have := (cut47_eq l).2
    rw [hc, List.append_nil] at this
    rw [← this]; rfl
  | some r =>
    obtain ⟨e1, e2, e3⟩ := h2 (cut47 l).1 r (by rw [← hc])
    rw [e1, if_pos (by omega)]
    simp only [Int.toNat_natCast, e2, List.length_singleton, e3]; rfl
theorem hasPrefix_45 (l : List UInt8) : Lib.hasPrefix l [45] = isNeg l := by
  unfold Lib.hasPrefix isNeg
  cases l with
  | nil => rfl
  | cons b r =>
    show ([45].isPrefixOf (b :: r)) = (some b == some 45)
    rw [Bool.eq_iff_iff]
    simp only [List.isPrefixOf, Bool.and_true, beq_iff_eq, Option.some.injEq]
    exact ⟨fun h => h.symm, fun h => h.symm⟩
theorem trimPrefix_45 (l : List UInt8) : Lib.trimPrefix l [45] = unsign l := by
  unfold Lib.trimPrefix unsign
  rw [hasPrefix_45]
  split <;> simp

/-- The text of an integer. -/
structure IntText (l : List UInt8) : Prop where
  canon : Canon (unsign l)
  sign : isNeg l = true → unsign l ≠ [48]
theorem IntText.no47 {l : List UInt8} (h : IntText l) : 47 ∉ unsign l := digs_no47 h.canon.1
theorem IntText.isText {l : List UInt8} (h : IntText l) : IsText l := by
  have e := cut47_none h.no47
  exact ⟨by rw [e]; exact h.canon, by rw [e]; exact h.sign, fun m hm => by rw [e] at hm; cases hm⟩
/-- Bytes as they are written in a list. -/
theorem mk_list (l : List UInt8) : (⟨l.toArray⟩ : ByteArray).data.toList = l := rfl
theorem mk_size (l : List UInt8) : (⟨l.toArray⟩ : ByteArray).size = l.length := by rw [← size_list]
theorem unsign_len (l : List UInt8) : (unsign l).length ≤ l.length := by unfold unsign; split <;> simp
theorem calls_quiet {P : Program} {f : FuncId} {args : Array Value} {w : World} {e0 : Ending} (h : Calls P f args w fun e w' => e = e0 ∧ w' = w) : Calls P f args w fun e w' => w = w' ∧ e = e0 := h.mono fun _ _ ⟨h1, h2⟩ => ⟨h2.symm, h1⟩

/-- The library's variables MaxLen and ErrSyntax. -/
def Env (w : World) : Prop := (∃ m : Int, w.cell? ⟨2, 0, none⟩ = some (.int .i64 m)) ∧ (∃ ev : Value, w.cell? ⟨0, 0, none⟩ = some ev ∧ (ev = .nilIface ∨ ∃ te pe, ev = .iface te pe)) ∧ 2 < w.heap.size ∧ 0 < w.heap.size
theorem Env.below {w w' : World} {B : Nat} (h : Env w) (hb : Below B w w') (h1 : 2 < B) (h2 : 0 < B) : Env w' := by
  obtain ⟨⟨m, hm⟩, ⟨ev, hv, he⟩, k1, k2⟩ := h
  exact ⟨⟨m, (hb.cell (p := ⟨2, 0, none⟩) h1).trans hm⟩, ⟨ev, (hb.cell (p := ⟨0, 0, none⟩) h2).trans hv, he⟩, Nat.lt_of_lt_of_le k1 hb.size, Nat.lt_of_lt_of_le k2 hb.size⟩
theorem Env.next {w w' : World} (h : Env w) (hb : Below w.heap.size w w') : Env w' := h.below hb h.2.2.1 h.2.2.2
theorem Env.alloc {w : World} (h : Env w) (o : Obj) : Env (w.alloc o) := h.next ((Below.refl _ _).alloc (Nat.le_refl _) _)
theorem Env.drewN {w : World} (h : Env w) (n : Nat) : Env (w.drewN n) := h
theorem cut_any (s : ByteArray) (w : World) (hs : s.size ≤ 4000000) (h : Env w) :
    Calls Tryd.prog 89 #[.string s, .string ⟨#[47]⟩] w fun e w' => e = .returned (.tuple #[.string ⟨(cut47 s.data.toList).1.toArray⟩, .string ⟨((cut47 s.data.toList).2.getD []).toArray⟩, .bool (cut47 s.data.toList).2.isSome]) ∧ ∃ n, w' = w.drewN n := by
  obtain ⟨⟨m, hm⟩, _⟩ := h
  have := Tryd.strings_Cut s ⟨#[47]⟩ m w (by omega) hm
  rw [show (⟨#[47]⟩ : ByteArray).data.toList = [47] from rfl, cut_47] at this
  exact this

/-- What is known at the end of the reading of an integer. -/
def FinI (w : World) (s : Bool) (A : Option Addr) (l c g n : Nat) (W : World) : Prop := Below w.heap.size w W ∧ W.cell? ⟨w.heap.size, 0, none⟩ = some (.bool s) ∧ W.cell? ⟨w.heap.size, 1, none⟩ = some (.slice A l c) ∧ W.cell? ⟨w.heap.size, 2, none⟩ = some (.slice (some ⟨g, 0, none⟩) 1 1) ∧
  IsN W W.heap.size .u32 (.slice A l c) n ∧ IsN W W.heap.size .u32 (.slice (some ⟨g, 0, none⟩) 1 1) 1
theorem finish_int {w w3 : World} {s : Bool} {A : Option Addr} {l c n : Nat} {T T1 : TypeId} {o : Obj} (hb0 : Below w.heap.size w w3) (k3 : Bk w3 w.heap.size T #[Value.bool false, .slice none 0 0, .slice none 0 0]) (hN : IsN w3 w3.heap.size .u32 (.slice A l c) n) :
    FinI w s A l c w3.heap.size n (((((w3.setCell ⟨w.heap.size, 0, none⟩ (.bool s)).setCell ⟨w.heap.size, 1, none⟩ (.slice A l c)).setCell ⟨w.heap.size, 2, none⟩ (.slice (some ⟨w3.heap.size, 0, none⟩) 1 1)).alloc (.cells #[.int .u32 1] T1)).alloc o) := by
  have h1 := hN.set3 k3 (.bool s) (.slice A l c) (.slice (some ⟨w3.heap.size, 0, none⟩) 1 1)
  have hs := set3_size w3 w.heap.size (.bool s) (.slice A l c) (.slice (some ⟨w3.heap.size, 0, none⟩) 1 1)
  have hk := set3_bk (x := .bool s) (y := .slice A l c) (z := .slice (some ⟨w3.heap.size, 0, none⟩) 1 1) k3
  have hb := set3_below (x := .bool s) (y := .slice A l c) (z := .slice (some ⟨w3.heap.size, 0, none⟩) 1 1) hb0 (Nat.le_refl _)
  show FinI w s A l c w3.heap.size n (((set3 w3 w.heap.size (.bool s) (.slice A l c) (.slice (some ⟨w3.heap.size, 0, none⟩) 1 1)).alloc (.cells #[.int .u32 1] T1)).alloc o)
  generalize set3 w3 w.heap.size (.bool s) (.slice A l c) (.slice (some ⟨w3.heap.size, 0, none⟩) 1 1) = W at *
  rw [← hs] at h1 ⊢
  rw [← hs] at hk
  have hD := IsN.new_one W T1
  have hk2 := (hk.alloc (.cells #[.int .u32 1] T1)).alloc o
  refine ⟨(hb.alloc hb.size _).alloc (by have := hb.size; simp; omega) _, hk2.cell 0, hk2.cell 1, hk2.cell 2, ((h1.alloc _).alloc _), ?_⟩
  exact (show IsN (W.alloc (.cells #[.int .u32 1] T1)) (W.alloc (.cells #[.int .u32 1] T1)).heap.size .u32 _ 1 from by simpa using hD).alloc o
theorem bodyPost_named {P : Program} {fn : Func} {R : Ending → World → Prop} {e : Exit} {a : Act} {w : World} (F : World → Prop) (hF : F w) (h : ∀ W, F W → bodyPost P fn R e a W) : bodyPost P fn R e a w := h w hF

set_option maxRecDepth 100000 in
set_option maxHeartbeats 1600000 in
theorem readlong_int (s : ByteArray) (w : World) (hs : s.size ≤ 4000000) (hT : IntText s.data.toList) (he : Env w) :
    Calls Tryd.prog 91 #[.string s] w fun e w' => Below w.heap.size w w' ∧ ∃ N D, e = .returned (.tuple #[.agg #[.bool (isNeg s.data.toList), N, D], .bool true]) ∧ IsN w' w'.heap.size .u32 N (dval (unsign s.data.toList)) ∧ IsN w' w'.heap.size .u32 D 1 := by
  have c1 := fun W => Tryd.strings_CutPrefix s ⟨#[45]⟩ W
  have e45 : (⟨#[45]⟩ : ByteArray).data.toList = [45] := rfl
  rw [e45, trimPrefix_45, hasPrefix_45] at c1
  have hl := unsign_len s.data.toList
  rw [size_list] at hl
  have hcan := hT.canon
  have HS := Lib.hid hT.sign
  have HC := Lib.hid (cut47_none hT.no47)
  clear hT e45
  generalize isNeg s.data.toList = g at *
  obtain ⟨r, hr⟩ : ∃ r : ByteArray, r = ⟨(unsign s.data.toList).toArray⟩ := ⟨_, rfl⟩
  have hu : r.data.toList = unsign s.data.toList := by rw [hr]
  rw [← hr] at c1
  have hus : r.size ≤ 4000000 := by rw [hr, mk_size]; omega
  have HU := Lib.hid hu
  clear hu hr
  generalize unsign s.data.toList = u at *
  go_enter Tryd.func91, Tryd.ntmps91
  go_wp2_with fail
  refine (c1 _).mono ?_
  rintro e w1 ⟨rfl, rfl⟩
  go_wp2_with fail
  refine (cut_any _ _ hus (he.alloc _)).mono ?_
  rintro e w1 ⟨rfl, n1, rfl⟩
  rw [HU.out, HC.out]
  obtain ⟨q, hq⟩ : ∃ q : ByteArray, q = ⟨u.toArray⟩ := ⟨_, rfl⟩
  rw [← hq]
  have hqu : q.data.toList = u := by rw [hq]
  have hqs : q.size ≤ 4000000 := by rw [hq, mk_size, ← HU.out, size_list]; exact hus
  have HQ := Lib.hid hqu
  have H0 : Hid (g = true → (q.toList == [48]) = false) := fun e => by
    rw [bs_toList, HQ.out, beq_eq_false_iff_ne]; exact HS.out e
  clear hq hqu
  go_wp2_with fail
  refine (plain_any q _ hqs).mono ?_
  rintro e w2 ⟨rfl, b, rfl, hb⟩
  obtain rfl : b = true := hb.2 (by rw [HQ.out]; exact hcan)
  clear hb
  have HCd := Lib.hid hcan.1
  clear hcan
  cases g
  · have h0 := H0.out
    clear h0
    go_wp2_with fail
    refine (digits_any q _ hqs (by rw [HQ.out]; exact HCd.out)).mono ?_
    rintro e w3 ⟨hb3, N, rfl, hN⟩
    rw [HQ.out] at hN
    obtain ⟨A, l, c, rfl⟩ := hN.form
    have k0 := (Bk.new w 98 #[Value.bool false, .slice none 0 0, .slice none 0 0]).drewN n1
    have k3 := k0.below hb3 k0.lt
    have hlt := Nat.lt_of_lt_of_le k0.lt hb3.size
    have d0 := k3.cell 0
    have d1 := k3.cell 1
    have d2 := k3.cell 2
    have f0 := k3.frozen 0
    have f1 := k3.frozen 1
    have f2 := k3.frozen 2
    simp only [List.getElem?_toArray, List.getElem?_cons_zero, List.getElem?_cons_succ] at d0 d1 d2
    have hb0 : Below w.heap.size w w3 := (below_drewN (below_alloc w _) n1).trans (hb3.mono (by show _ ≤ (w.alloc _).heap.size; simp))
    clear k0
    go_wp2
    refine bodyPost_named (FinI w false A l c w3.heap.size (dval u)) (finish_int hb0 k3 hN) ?_
    generalize w3.heap.size = g3
    rintro W ⟨hB, e0, e1, e2, hN', hD'⟩
    refine bodyPost_ret (v := .tuple #[.agg #[.bool false, .slice A l c, .slice (some ⟨g3, 0, none⟩) 1 1], .bool true]) (by simp [results, Tryd.results91, go_sem, e0, e1, e2]) rfl ?_
    exact ⟨hB, _, _, rfl, hN', hD'⟩
  · have h0 := H0.out
    have h1 := h0 rfl
    clear h0
    go_wp2_with fail
    refine (digits_any q _ hqs (by rw [HQ.out]; exact HCd.out)).mono ?_
    rintro e w3 ⟨hb3, N, rfl, hN⟩
    rw [HQ.out] at hN
    obtain ⟨A, l, c, rfl⟩ := hN.form
    have k0 := (Bk.new w 98 #[Value.bool false, .slice none 0 0, .slice none 0 0]).drewN n1
    have k3 := k0.below hb3 k0.lt
    have hlt := Nat.lt_of_lt_of_le k0.lt hb3.size
    have d0 := k3.cell 0
    have d1 := k3.cell 1
    have d2 := k3.cell 2
    have f0 := k3.frozen 0
    have f1 := k3.frozen 1
    have f2 := k3.frozen 2
    simp only [List.getElem?_toArray, List.getElem?_cons_zero, List.getElem?_cons_succ] at d0 d1 d2
    have hb0 : Below w.heap.size w w3 := (below_drewN (below_alloc w _) n1).trans (hb3.mono (by show _ ≤ (w.alloc _).heap.size; simp))
    clear k0
    go_wp2
    refine bodyPost_named (FinI w true A l c w3.heap.size (dval u)) (finish_int hb0 k3 hN) ?_
    generalize w3.heap.size = g3
    rintro W ⟨hB, e0, e1, e2, hN', hD'⟩
    refine bodyPost_ret (v := .tuple #[.agg #[.bool true, .slice A l c, .slice (some ⟨g3, 0, none⟩) 1 1], .bool true]) (by simp [results, Tryd.results91, go_sem, e0, e1, e2]) rfl ?_
    exact ⟨hB, _, _, rfl, hN', hD'⟩
end Go.Proofs.YtmoenbdooilceaaDoor
