/-
  PROVED: the law ArrayWindows returns true for every input, and each argument reads behind the call as it did before (the tied card, no condition of its own: the package-level variables that its row lists hold at the start what the program's text lays).
-/
import Derived.Test.YtgnffedncjjkfaaGreatDoorFrmT
import Derived.Lib.SmallJoins
import Derived.Test.YtgnffedncjjkfaaGreatDoorAlgX
import Derived.Test.YtgnffedncjjkfaaGreatDoorArxH
namespace Go.Proofs.YtgnffedncjjkfaaGreatDoor
open Go.RowKit Ix Ar

theorem putT_zero : putT 0 = ⟨#[48]⟩ := by
  have hd : Lib.decDigits 0 = [48] := decDigits_small (by decide)
  have hd1 : Lib.decDigits 1 = [49] := decDigits_small (by decide)
  have hs : Short 0 := by
    unfold Short
    rw [nm_0, dn_0, hd, hd1]
    decide
  unfold putT
  rw [if_pos hs, ratText_parts, nm_0, dn_0, hd]
  rfl
theorem windowR_in {a : Arr} {x red n : Int} (h : InA a) : (windowR a x red n).1.1.length ≤ maxLen ∧ (windowR a x red n).1.2.length ≤ maxLen := by
  by_cases h1 : VA a
  · by_cases h2 : AxOk a x red ∧ 1 ≤ n
    · rw [windowR_ok h1 h2]
      have hx : x.toNat < a.1.length := by have := h2.1.1; omega
      refine ⟨h.shape, ?_⟩
      show (alongV _ _ _ _ _ _).length ≤ _
      rw [along_len, set_self (by rw [List.length_map]; exact hx)]
      have := h1.1.2.2
      unfold maxLen
      omega
    · rw [windowR_arg h1 h2]; exact ⟨Nat.zero_le _, Nat.zero_le _⟩
  · rw [windowR_bad h1]; exact ⟨Nat.zero_le _, Nat.zero_le _⟩
/-- Windows of one element, summed: the array, with 0 for what is missing. -/
theorem window_law {a : Arr} {x : Int} (h : (windowR a x 1 1).2 = 0) : (windowR a x 1 1).1.2 = a.2.map fun s => if s = ⟨#[]⟩ then ⟨#[48]⟩ else s := by
  obtain ⟨h1, h2, h3⟩ := windowR_err h
  rw [windowR_ok h1 ⟨h2, h3⟩]
  show alongV _ _ _ _ _ _ = _
  rw [window_one (by rw [List.length_map]; have := h2.1; omega) h1.2.1 h1.2.2, putT_zero]

set_option maxRecDepth 100000 in
set_option maxHeartbeats 6400000 in
theorem windows_walk (a : Arr) (x red n : Int) (A A' : Option Addr) (c c' : Nat) (w : World) (ha : IsA w w.heap.size (.agg #[.slice A a.1.length c, .slice A' a.2.length c']) a) (hL : a.1.length ≤ maxLen) (hM : a.2.length ≤ maxLen)
    (_ : -9223372036854775808 ≤ x) (_ : x ≤ 9223372036854775807) (_ : -9223372036854775808 ≤ red) (_ : red ≤ 9223372036854775807) (_ : -9223372036854775808 ≤ n) (hn : n ≤ 9223372036854775807) (he : Env w) (her : EnvR w) :
    Calls Tryz.prog 11 #[.agg #[.slice A a.1.length c, .slice A' a.2.length c', .int .i64 x, .int .i64 red, .int .i64 n]] w fun r w' => Below w.heap.size w w' ∧ r = .returned (.bool true) := by
  obtain ⟨q, hq⟩ : ∃ b : Bool, b = true ↔ ¬ Slim a := by classical exact ⟨decide _, decide_eq_true_iff⟩
  have WD := Lib.hid (fun W (hW : Below w.heap.size w W) => wide_any a _ W (ha.next hW) hL hM q hq)
  have SN := Lib.hid (fun W (hW : Below w.heap.size w W) => sane_any W (he.next hW))
  have hha := ha
  obtain ⟨S, V⟩ := a
  simp only at hL hM
  have B0 : BxW w [(w.heap.size, 66, #[.slice A S.length c, .slice A' V.length c', .int .i64 x, .int .i64 red, .int .i64 n])] (w.alloc (.cells #[.slice A S.length c, .slice A' V.length c', .int .i64 x, .int .i64 red, .int .i64 n] 66)) := (BxW.nil w).new _ _
  have C5 := Lib.hid (fun (W : World) (k : Bk W w.heap.size 66 #[.slice A S.length c, .slice A' V.length c', .int .i64 x, .int .i64 red, .int .i64 n]) => show W.cell? ⟨w.heap.size, 0, none⟩ = some (.slice A S.length c) ∧ W.cell? ⟨w.heap.size, 1, none⟩ = some (.slice A' V.length c') ∧ W.cell? ⟨w.heap.size, 2, none⟩ = some (.int .i64 x) ∧ W.cell? ⟨w.heap.size, 3, none⟩ = some (.int .i64 red) ∧ W.cell? ⟨w.heap.size, 4, none⟩ = some (.int .i64 n) from ⟨k.cell 0, k.cell 1, k.cell 2, k.cell 3, k.cell 4⟩)
  cases q
  rotate_left
  · clear hq ha hha he her
    go_enter Tryz.func11, Tryz.ntmps11
    obtain ⟨b0, b1, b2, b3, b4⟩ := C5.out _ B0.one
    go_wp2_with fail
    generalize w.alloc (.cells #[.slice A S.length c, .slice A' V.length c', .int .i64 x, .int .i64 red, .int .i64 n] 66) = W0 at *
    refine (WD.out W0 B0.below).mono ?_
    rintro r w1 ⟨hb1, rfl⟩
    have B1 := B0.next hb1
    go_wp2_with fail
    refine (SN.out w1 B1.below).mono ?_
    rintro r w2 ⟨hb2, rfl⟩
    go_wp2
    go_ret
    exact ⟨(B1.next hb2).below, rfl⟩
  have hs : Slim (S, V) := by
    apply Classical.byContradiction
    intro h'
    have := hq.2 h'
    cases this
  obtain ⟨-, hl1, hl2⟩ := hs
  simp only at hl1 hl2
  have hi : InA (S, V) := ⟨hL, by show V.length ≤ _; omega, fun s hs => by have := hl2 s hs; omega⟩
  have F1 := Lib.hid (fun W (hW : Below w.heap.size w W) => window_any (S, V) x red n _ W (hha.next hW) hi (he.next hW) (her.next hW) (by show V.length ≤ 1000; omega) hn)
  have F2 := Lib.hid (fun W (hW : Below w.heap.size w W) => rwindow_any (S, V) x red n _ W (hha.next hW) hi (by show V.length ≤ 1000; omega) hn)
  have F3 := Lib.hid (fun W (hW : Below w.heap.size w W) => window_any (S, V) x 1 1 _ W (hha.next hW) hi (he.next hW) (her.next hW) (by show V.length ≤ 1000; omega) (by omega))
  have HLW := Lib.hid (window_law (a := (S, V)) (x := x))
  have hRi := windowR_in (x := x) (red := red) (n := n) hi
  have HT := Lib.hid (ha.parts.2.rd)
  generalize windowR (S, V) x red n = R at *
  generalize windowR (S, V) x 1 1 = T at *
  obtain ⟨R1, R2⟩ := R
  obtain ⟨⟨T0, T1⟩, T2⟩ := T
  simp only at F1 F2 F3 HLW hRi
  have AG := Lib.hid (fun W u v (hu : IsA W W.heap.size u R1) (hv : IsA W W.heap.size v R1) => agrees_any R1 R1 u v R2 R2 W hu hv hRi.1 hRi.2 true (by simp))
  clear hq ha hha he her hi hRi hl2
  go_enter Tryz.func11, Tryz.ntmps11
  obtain ⟨b0, b1, b2, b3, b4⟩ := C5.out _ B0.one
  go_wp2_with fail
  generalize w.alloc (.cells #[.slice A S.length c, .slice A' V.length c', .int .i64 x, .int .i64 red, .int .i64 n] 66) = W0 at *
  refine (WD.out W0 B0.below).mono ?_
  rintro r w1 ⟨hb1, rfl⟩
  have B1 := B0.next hb1
  clear b0 b1 b2 b3 b4 B0 hb1
  obtain ⟨b0, b1, b2, b3, b4⟩ := C5.out _ B1.one
  go_wp2_with fail
  refine (F1.out w1 B1.below).mono ?_
  rintro r w2 ⟨hb2, u, rfl, hu⟩
  obtain ⟨A1, c1, A2, c2, rfl, -, -⟩ := hu.form
  have B2 := (B1.next hb2).new 25 #[.slice A1 R1.1.length c1, .slice A2 R1.2.length c2]
  have hu3 := hu.next (below_alloc w2 (.cells #[.slice A1 R1.1.length c1, .slice A2 R1.2.length c2] 25))
  clear b0 b1 b2 b3 b4 B1 hb2 hu
  obtain ⟨b0, b1, b2, b3, b4⟩ := C5.out _ B2.one
  go_wp2_with fail
  generalize w2.alloc (.cells #[.slice A1 R1.1.length c1, .slice A2 R1.2.length c2] 25) = w3 at *
  generalize w2.heap.size = bu at *
  refine (F2.out w3 B2.below).mono ?_
  rintro r w4 ⟨hb4, v, rfl, hv⟩
  obtain ⟨C1, d1, C2, d2, rfl, -, -⟩ := hv.form
  have B4 := (B2.next hb4).new 25 #[.slice C1 R1.1.length d1, .slice C2 R1.2.length d2]
  have ba := below_alloc w4 (.cells #[.slice C1 R1.1.length d1, .slice C2 R1.2.length d2] 25)
  have hu5 := (hu3.next hb4).next ba
  have hv5 := hv.next ba
  clear b0 b1 b2 b3 b4 B2 hb4 hu3 hv ba
  obtain ⟨y0, y1⟩ := bkA B4.two
  obtain ⟨z0, z1⟩ := bkA B4.three
  go_wp2_with fail
  generalize w4.alloc (.cells #[.slice C1 R1.1.length d1, .slice C2 R1.2.length d2] 25) = w5 at *
  generalize w4.heap.size = bv at *
  refine (AG.out w5 _ _ hu5 hv5).mono ?_
  rintro r w6 ⟨hb6, rfl⟩
  have B6 := B4.next hb6
  clear y0 y1 z0 z1 B4 hb6 hu5 hv5
  go_wp2_with fail
  refine (SN.out w6 B6.below).mono ?_
  rintro r w7 ⟨hb7, rfl⟩
  have B7 := B6.next hb7
  clear B6 hb7
  obtain ⟨b0, b1, b2, b3, b4⟩ := C5.out _ B7.one
  go_wp2_with fail
  refine (F3.out w7 B7.below).mono ?_
  rintro r w8 ⟨hb8, t, rfl, ht⟩
  obtain ⟨D1, e1, D2, e2, rfl, -, -⟩ := ht.form
  simp only
  have B9 := (B7.next hb8).new 25 #[.slice D1 T0.length e1, .slice D2 T1.length e2]
  have ht9 := ht.next (below_alloc w8 (.cells #[.slice D1 T0.length e1, .slice D2 T1.length e2] 25))
  clear b0 b1 b2 b3 b4 B7 hb8 ht F1 F2 F3 AG WD SN
  by_cases hT2 : T2 = 0
  rotate_left
  · have hne : (T2 != 0) = true := by simp [hT2]
    clear hT2 ht9 HLW HT
    go_wp2
    go_ret
    exact ⟨B9.below, rfl⟩
  have hne : (T2 != 0) = false := by simp [hT2]
  have hlaw := HLW.out hT2
  have hlen : T1.length = V.length := by rw [hlaw, List.length_map]
  have HC1 := Lib.hid (fun W (hW : Below (w8.alloc (.cells #[.slice D1 T0.length e1, .slice D2 T1.length e2] 25)).heap.size (w8.alloc (.cells #[.slice D1 T0.length e1, .slice D2 T1.length e2] 25)) W) k (hk : k < V.length) => show ∃ ad, D2 = some ad ∧ W.cell? (ad.add k) = some (.string (if V[k] = ⟨#[]⟩ then ⟨#[48]⟩ else V[k])) from by
    obtain ⟨ad, a1, a2, a3⟩ := (ht9.parts.2.rd.below hW).str (j := k) (by show k < T1.length; rw [hlen]; exact hk)
    exact ⟨ad, a1, by rw [a3]; simp [hlaw]⟩)
  have hll : ((T1.length : Int) != (V.length : Int)) = false := by simp; omega
  rw [hlen] at hll B9 HC1 ⊢
  have hB9 := B9.below
  have kx := B9.one
  have kt := B9.four
  obtain ⟨b0, b1, b2, b3, b4⟩ := C5.out _ kx
  obtain ⟨t0, t1⟩ := bkA kt
  clear hlaw hlen ht9 B9 HLW
  go_wp2_with fail
  generalize w8.alloc (.cells #[.slice D1 T0.length e1, .slice D2 V.length e2] 25) = W9 at *
  generalize w8.heap.size = bt at *
  clear b0 b1 b2 b3 b4 t0 t1
  go_loopw [9] (fun i wr => ∃ k : Nat, k ≤ V.length ∧ i = .int .i64 k ∧ Below W9.heap.size W9 wr) (fun i _ => V.length - (intOf i).toNat)
  case atStart => exact ⟨0, Nat.zero_le _, rfl, Below.refl _ _⟩
  case round =>
    obtain ⟨k, hk, rfl, hC⟩ := hrel
    have hB := hB9.trans (hC.mono hB9.size)
    have kx2 := kx.next' hC
    have kt2 := kt.next' hC
    obtain ⟨b0, b1, b2, b3, b4⟩ := C5.out _ kx2
    obtain ⟨t0, t1⟩ := bkA kt2
    by_cases hlt : k < V.length
    · obtain ⟨ad, rfl, _, hcv⟩ := (HT.out.below hB).str hlt
      obtain ⟨ad2, rfl, hct⟩ := HC1.out wr hC k hlt
      generalize V[k] = s at *
      by_cases hse : s = ⟨#[]⟩
      · subst hse
        rw [if_pos rfl] at hct
        clear kx kt HC1
        go_wp2
        go_roundw
        case rel => exact ⟨k + 1, by omega, by go_num, hC⟩
        case measure => simp [intOf]; omega
      · rw [if_neg hse] at hct
        have hsn : (s.toList == []) = false := by
          rw [ByteArray.toList_eq, beq_eq_false_iff_ne]
          exact fun h0 => hse (ba_list h0)
        have hss : (s.toList == s.toList) = true := by simp
        clear kx kt HC1 hse
        go_wp2
        go_roundw
        case rel => exact ⟨k + 1, by omega, by go_num, hC⟩
        case measure => simp [intOf]; omega
    · obtain rfl : k = V.length := by omega
      go_wp2
      go_ret
      exact ⟨hB, rfl⟩
end Go.Proofs.YtgnffedncjjkfaaGreatDoor

namespace Go.Proofs.YtgnffedncjjkfaaGreatDoor.fnWindows
open Go.ChangeShapes Go.WideShapes Go.ChangeAt Go.RowKit Go.Proofs.YtgnffedncjjkfaaGreatDoor

theorem cellsS : Tryz.prog.cellsOf 66 = 5 := by kernel_rfl
theorem split_of {cs : Array Value} (h : cs.size = 5) : ∃ b0 b1 b2 b3 b4, cs = #[b0, b1, b2, b3, b4] := by
  obtain ⟨l⟩ := cs
  match l, h with
  | [b0, b1, b2, b3, b4], _ => exact ⟨b0, b1, b2, b3, b4, rfl⟩
set_option maxRecDepth 100000 in
theorem contract (H : Type) (enc : TypeId × Value → H) (W : World) (base : Nat) (args : Array Value) (ds gs : List (DataW H)) (before : List MemPlace)
    (hval : ∀ (j : Nat) t v, Tryz.f11.params[j]? = some t → args[j]? = some v → Value.okWide Tryz.prog W .any base t v)
    (hW : DataW.Whole enc Tryz.prog Tryz.f11.params.toList Rows.arrayWindowsSpec.vars false W args.toList ds gs before) (hL : laidMetH Tryz.prog Rows.arrayWindowsRow.laid W) (hsh : W.ShapedOpen Tryz.prog) :
    Calls Tryz.prog 11 args W fun e W' => ∃ v, e = .returned v ∧ Rows.arrayWindowsSpec.post enc Tryz.prog Tryz.f11 false true false false W args v W' := by
  obtain ⟨he, her⟩ := env_of hL hsh
  have hW' := hW
  obtain ⟨p, q, hA0, hV, rfl, hfz, hnd⟩ := hW
  have hA : DataW.TrodAll enc Tryz.prog W 0 (fun _ => true) true Tryz.f11.params.toList args.toList ds p := hA0
  rw [Tryz.params11] at hA hval
  obtain ⟨v0, d0, rfl, rfl, h0⟩ := trodAll_one hA
  obtain ⟨rfl, rfl⟩ := trodVars_none hV
  obtain ⟨cs, rfl, hcs⟩ := okWide_struct Tryz.underlying66 (hval 0 66 v0 rfl rfl)
  rw [cellsS] at hcs
  obtain ⟨b0, b1, b2, b3, b4, rfl⟩ := split_of hcs
  obtain ⟨fuel, hf⟩ := h0
  obtain ⟨y0, y1, y2, y3, n, _, _, g0, g1, g2, g3⟩ := Go.Joins.trod_struct4 Tryz.underlying66 hf
  simp only [Tryz.cellsArr, Tryz.cellsInt, Value.cells, List.drop_zero, List.take_succ_cons, List.take_zero, List.drop_succ_cons] at g0 g1 g2 g3
  obtain ⟨x0, i0, l0, m0, w0⟩ := opened_arr2 g0
  obtain ⟨A0, c0, B0, d0, e0, -, -⟩ := i0.form
  simp only [Value.agg.injEq, Array.mk.injEq, List.cons.injEq, and_true] at e0
  obtain ⟨rfl, rfl⟩ := e0
  obtain ⟨n1, f1, _, q1⟩ := DataW.trod_int Tryz.underlying3 g1
  simp only [List.cons.injEq, and_true] at f1
  subst f1
  obtain ⟨n2, f2, _, q2⟩ := DataW.trod_int Tryz.underlying3 g2
  simp only [List.cons.injEq, and_true] at f2
  subst f2
  obtain ⟨n3, f3, _, q3⟩ := DataW.trod_int Tryz.underlying3 g3
  simp only [List.cons.injEq, and_true] at f3
  subst f3
  refine (windows_walk x0 n1 n2 n3 A0 B0 c0 d0 W i0 l0 m0 (in64_cut q1).1 (in64_cut q1).2 (in64_cut q2).1 (in64_cut q2).2 (in64_cut q3).1 (in64_cut q3).2 he her).mono fun e W' ⟨hb, e1⟩ => ?_
  subst e1
  exact ⟨_, rfl, law_post (by kernel_rfl) rfl (by rw [Tryz.params11]; intro t ht; simp at ht; subst ht; exact ⟨by kernel_rfl, of_decide_eq_true (by kernel_rfl)⟩) ⟨rfl, rfl, rfl⟩ hW' hb⟩

theorem reads (os : Os) {H : Type} (enc : TypeId × Value → H) : ∃ places, DataW.whole enc Tryz.prog ((laidWorld os).forCall (fun _ _ => 0) ⟨#[], #[Value.agg #[.slice none 0 0, .slice none 0 0, .int .i64 0, .int .i64 0, .int .i64 0]], []⟩).memory Tryz.f11.params.toList Rows.arrayWindowsSpec.vars false #[Value.agg #[.slice none 0 0, .slice none 0 0, .int .i64 0, .int .i64 0, .int .i64 0]].toList 8 = some ([.agg [.agg [.nil, .nil], .lit (.int .i64 0), .lit (.int .i64 0), .lit (.int .i64 0)]], [], places) :=
  ⟨[], by kernel_rfl⟩

set_option maxRecDepth 100000 in
theorem lifted (os : Os) (started : os.Started) (H : Type) (enc : TypeId × Value → H) (F : Stop.Interp) :
    ReturnsInHanded {} Tryz.checked os 11 .any ((OpenSpec.ofChange Rows.arrayWindowsSpec).preRow enc Tryz.prog Tryz.f11 Rows.arrayWindowsRow.domain false Rows.arrayWindowsRow.laid) (((OpenSpec.ofChange Rows.arrayWindowsSpec).at F).post enc Tryz.prog Tryz.f11 false true false false) := by
  obtain ⟨places, hx⟩ := reads os enc
  refine returnsInHanded_of_row (C := Tryz.checked) (s := OpenSpec.ofChange Rows.arrayWindowsSpec) Tryz.own started (by kernel_rfl) Tryz.func11
    (witness_row_atRef (enc := enc) (C := Tryz.checked) false (laidWorld os) #[Value.agg #[.slice none 0 0, .slice none 0 0, .int .i64 0, .int .i64 0, .int .i64 0]] rfl (by kernel_rfl) (by kernel_rfl) (by kernel_rfl)
      (OpenSpec.preRow_of_cond 8 hx (by kernel_rfl) (fun k hk => by cases hk) (by kernel_rfl) (laid_met os _))) ?_
  intro W base args ds gs before hval hW _ _ _ hL hsh _
  exact contract H enc W base args ds gs before hval hW hL hsh

theorem k0 : (Rows.arrayWindowsRow.inPlace == Tryz.prog.inPlace 11) = true := by kernel_rfl
theorem k1 : (Rows.arrayWindowsRow.unfollowed == Tryz.prog.unfollowed 11) = true := by kernel_rfl
theorem k2 : (Rows.arrayWindowsRow.recurses == Tryz.prog.recurses 11) = true := by kernel_rfl
theorem k3 : (Rows.arrayWindowsRow.named == Tryz.prog.varsNamed 11) = true := by kernel_rfl
theorem k4 : (Rows.arrayWindowsRow.plainKeys == Tryz.prog.plainKeys) = true := by kernel_rfl
theorem k5 : (Tryz.prog.mayEnter) = true := by kernel_rfl
theorem k6 : (Rows.arrayWindowsRow.lifted == Tryz.prog.liftsFinal) = true := by kernel_rfl
theorem k7 : (Tryz.prog.make == some Rows.arrayWindowsRow.make) = true := by kernel_rfl
theorem k8 : (Tryz.prog.stopsHeard) = true := by kernel_rfl
theorem k9 : (mapsRowed Tryz.prog) = true := by kernel_rfl
theorem joined : joinedFacts Tryz.prog 11 Tryz.f11 (OpenSpec.ofChange Rows.arrayWindowsSpec).bare Rows.arrayWindowsRow = true := by
  unfold joinedFacts
  rw [k0, k1, k2, k3, k4, k5, k6, k7, k8, k9, Tryz.laidOutB_ok]
  kernel_rfl

theorem goes : false = Rows.arrayWindowsRow.goesBy Tryz.prog := by kernel_rfl
theorem looks : true = Tryz.pinned.checked.prog.looks [] := by kernel_rfl
theorem wfB : Rows.arrayWindowsRow.wfByText (OpenSpec.ofChange Rows.arrayWindowsSpec) = true := by kernel_rfl
theorem said : Rows.ArrayWindowsSaid :=
  OpenClaim.holds_of_cond 11 Tryz.f11 rfl rfl rfl rfl rfl rfl rfl ⟨rfl, rfl, rfl, rfl, rfl⟩ rfl rfl rfl rfl rfl (by kernel_rfl) Tryz.func11 joined
    (of_decide_eq_true (by kernel_rfl)) (by unfold Func.isWrapper; first | (rw [if_pos (by decide +kernel)]; kernel_rfl) | (rw [if_neg (by decide +kernel)]; exact ⟨rfl, rfl⟩))
    (fun os started H enc _ F => by rw [OpenClaim.pre_eq_preRow]; exact lifted os started H enc F)

theorem plain (f : FuncId) (fn : Func) (hf : Tryz.pinned.checked.prog.funcNamed "arrayarchive/arrayarchivelaw06.ArrayWindows" = some f) (hfn : Tryz.pinned.checked.prog.funcs[f]? = some fn) :
    true = Tryz.pinned.checked.prog.looks [] ∧ ∀ (j : Nat) t, fn.params[j]? = some t → Tryz.pinned.checked.prog.wantsStandIn t = false := by
  obtain rfl : f = 11 := Option.some.inj ((show Tryz.prog.funcNamed "arrayarchive/arrayarchivelaw06.ArrayWindows" = some 11 by kernel_rfl).symm.trans hf) |>.symm
  obtain rfl : fn = Tryz.f11 := (Option.some.inj (Tryz.func11.symm.trans hfn)).symm
  refine ⟨looks, fun j t ht => ?_⟩
  rw [Tryz.params11] at ht
  have hm := Array.mem_of_getElem? ht
  simp at hm
  subst hm
  exact (show Tryz.prog.wantsStandIn 66 = false by kernel_rfl)

theorem card : Rows.ArrayWindowsCardSaid :=
  Claim7.holds_tied_plain_at .later [] _ _ _ _ said (fun _ h => by cases h) wfB (fun _ h => by cases h) arrayWindows_row_tie rfl ⟨rfl, rfl⟩ (by kernel_rfl) rfl plain goes
end Go.Proofs.YtgnffedncjjkfaaGreatDoor.fnWindows
namespace Go.Proofs.YtgnffedncjjkfaaGreatDoor
theorem windows_holds : Rows.ArrayWindowsCardSaid := fnWindows.card
end Go.Proofs.YtgnffedncjjkfaaGreatDoor
