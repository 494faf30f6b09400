/-
  Walks: strings.Builder: copyCheck and WriteString, at a builder that the call has made itself.
  Walks: package ratio's natural numbers: String.
  Walks: package ratio's fractions: Sub, Long.
  Plain law: the sizes of numbers and of their texts.
  Words: lists of numbers in memory.
  Walk: package ratio's Sum.
-/
import Derived.Test.YtpkhgdnkkdhlcaaGreatDoorNaX
import Derived.Lib.Builder
import Derived.Lib.AppendStr
import Derived.Lib.UnsafeStr
import Derived.Lib.Strings
import Derived.Lib.Walk
import Derived.Laws.Externs
import Derived.RegionTactic
import Derived.Test.YtpkhgdnkkdhlcaaGreatDoorWordsB
import Derived.Test.YtpkhgdnkkdhlcaaGreatDoorNumX
import Derived.Test.YtpkhgdnkkdhlcaaGreatDoorShelf
import Derived.Lib.AppendIntMem
import Derived.Lib.ItoaMem
import Derived.LoopTactic
import Derived.WalkSmall
import Derived.Test.YtpkhgdnkkdhlcaaGreatDoorFrX
namespace Go.Proofs.YtpkhgdnkkdhlcaaGreatDoor
open Go.RowKit

theorem Tryz.builder_size : (Tryz.prog.info? 214).map (·.size) = some 2 := by kernel_rfl
theorem Tryz.builder_lies : liesAt Tryz.prog Tryz.prog.depth 214 (2 / Tryz.prog.cellsOf 214) 0 214 1 = true := by kernel_rfl
theorem Tryz.byte_info : (Tryz.prog.info? 5).map (fun i => (i.zero, i.size, i.bytes)) = some (some (.int .u8 0), 1, 1) := by kernel_rfl

set_option maxHeartbeats 1000000 in
set_option maxRecDepth 100000 in
theorem copyCheck_used (b : Nat) (w : World) (h0 : w.cell? ⟨b, 0, none⟩ = some (.pointer (some ⟨b, 0, none⟩))) :
    Calls Tryz.prog 231 #[.pointer (some ⟨b, 0, none⟩)] w fun e w' => e = .returned (.tuple #[]) ∧ w' = w := by
  obtain ⟨j, hj, _⟩ := Option.map_eq_some_iff.1 Tryz.builder_size
  go_enter Tryz.func231, Tryz.ntmps231
  go_wp2
  rw [Lib.run_neq_ptr_same w _ Tryz.underlying212 hj]
  go_wp2
  go_end0
  exact ⟨rfl, rfl⟩

set_option maxHeartbeats 1000000 in
set_option maxRecDepth 100000 in
theorem copyCheck_fresh (b : Nat) (w : World) (h0 : w.cell? ⟨b, 0, none⟩ = some (.pointer none)) (hsh : w.shape? b = some (214, 2)) (hfz : w.frozen? ⟨b, 0, none⟩ = false) :
    Calls Tryz.prog 231 #[.pointer (some ⟨b, 0, none⟩)] w fun e w' => e = .returned (.tuple #[]) ∧ w' = w.setCell ⟨b, 0, none⟩ (.pointer (some ⟨b, 0, none⟩)) := by
  obtain ⟨j, hj, hjs⟩ := Option.map_eq_some_iff.1 Tryz.builder_size
  go_enter Tryz.func231, Tryz.ntmps231
  go_wp2
  rw [Lib.run_to_unsafe w ⟨b, 0, none⟩ Tryz.underlying212 Tryz.underlying220 hj (by rw [hjs]; decide) hsh (Nat.zero_lt_succ 1)]
  simp only [Result.andThen]
  rw [Oper.upon_value]
  go_wp2
  rw [run_callFunc_extern Tryz.func234 (by kernel_rfl) (by kernel_rfl) (by kernel_rfl) (e := Extern.AbiNoEscape.same) (by kernel_rfl)]
  rw [Lib.run_noEscape]
  simp only [Result.andThen]
  rw [Oper.upon_value]
  go_wp2
  rw [Lib.run_from_unsafe w ⟨b, 0, none⟩ Tryz.underlying220 Tryz.underlying212 hj hsh Tryz.builder_lies]
  simp only [Result.andThen]
  rw [Oper.upon_value]
  go_wp2
  go_end0
  exact ⟨rfl, rfl⟩

theorem copyCheck_any (B b : Nat) (bs : List Value) (w : World) (h : Lib.IsBuilder 214 5 B b bs w) :
    Calls Tryz.prog 231 #[.pointer (some ⟨b, 0, none⟩)] w fun e w' => e = .returned (.tuple #[]) ∧ (Lib.BuilderAt 214 5 B b (.pointer (some ⟨b, 0, none⟩)) bs w' ∧ Below B w w') := by
  rcases h with h | h
  · refine (copyCheck_fresh b w h.cell0 h.shape h.frozen0).mono ?_
    rintro e w' ⟨rfl, rfl⟩
    exact ⟨rfl, h.used _, (Below.refl B w).setCell (p := ⟨b, 0, none⟩) h.1 _⟩
  · refine (copyCheck_used b w h.cell0).mono ?_
    rintro e w' ⟨rfl, rfl⟩
    exact ⟨rfl, h, Below.refl B _⟩

set_option maxHeartbeats 2000000 in
set_option maxRecDepth 100000 in
theorem writeString_any (B b : Nat) (bs : List Value) (s : ByteArray) (w : World) (h : Lib.IsBuilder 214 5 B b bs w) (hlen : bs.length + s.size ≤ 140737488355328) (hBw : B ≤ w.heap.size) :
    Calls Tryz.prog 224 #[.pointer (some ⟨b, 0, none⟩), .string s] w fun e w' => e = .returned (.tuple #[.int .i64 s.size, .nilIface]) ∧ (Lib.BuilderAt 214 5 B b (.pointer (some ⟨b, 0, none⟩)) (bs ++ Lib.strCells s) w' ∧ Below B w w') := by
  obtain ⟨i0, hi, hz0, hz1, hz2⟩ := info_parts Tryz.byte_info
  go_enter Tryz.func224, Tryz.ntmps224
  go_wp2_with fail
  refine (copyCheck_any B b bs _ h).mono ?_
  rintro e w1 ⟨rfl, h1, hb1⟩
  obtain ⟨hB, v, hbk, hown, hne⟩ := h1
  have c0 : w1.cell? ⟨b, 0, none⟩ = some (.pointer (some ⟨b, 0, none⟩)) := by rw [Lib.cell_of_heap hbk]; rfl
  have c1 : w1.cell? ⟨b, 1, none⟩ = some v := by rw [Lib.cell_of_heap hbk]; rfl
  go_wp2_with (at_builtin; refine Lib.wpList_append_own_string _ rfl _ _ 25 9 rfl B 5 i0 Tryz.underlying25 Tryz.underlying9 hi hz0 hz1 hz2 _ _ _ rfl hown s rfl ?c3 ?c4 ?c5 ?_)
  case c3 => unfold maxLen; omega
  case c4 => omega
  case c5 => have := hb1.size; omega
  intro v' w2 hown' hgrow _
  have hlt : b < w1.heap.size := by
    rcases Nat.lt_or_ge b w1.heap.size with h' | h'
    · exact h'
    · simp [Array.getElem?_eq_none h'] at hbk
  have hb2 : w2.heap[b]? = some (.cells #[.pointer (some ⟨b, 0, none⟩), v] 214 (0, 0)) := by
    rw [hgrow.block b hlt (fun e => hne e.symm)]
    exact hbk
  have d0 : w2.cell? ⟨b, 0, none⟩ = some (.pointer (some ⟨b, 0, none⟩)) := by rw [Lib.cell_of_heap hb2]; rfl
  have d1 : w2.cell? ⟨b, 1, none⟩ = some v := by rw [Lib.cell_of_heap hb2]; rfl
  have f1 : w2.frozen? ⟨b, 1, none⟩ = false := Lib.frozen_of_heap hb2 1
  obtain ⟨ao, n', cap, rfl⟩ : ∃ ao n' cap, v' = .slice ao n' cap := by
    rcases hown'.2 with ⟨hv, _⟩ | ⟨g, cap, cur, hv, _⟩
    · exact ⟨_, _, _, hv⟩
    · exact ⟨_, _, _, hv⟩
  go_wp2
  go_ret2
  refine ⟨rfl, ?_, ?_⟩
  · exact Lib.BuilderAt.put (T := 214) (e := 5) hB hb2 (bs' := bs ++ Lib.strCells s) (by simpa [Lib.strCells_length] using hown') (by decide)
  · exact (hb1.grown hgrow (by have := hb1.size; omega) (fun k hk => (hown.lt k hk).1)).setCell (p := ⟨b, 1, none⟩) hB _
end Go.Proofs.YtpkhgdnkkdhlcaaGreatDoor

namespace Go.Proofs.YtpkhgdnkkdhlcaaGreatDoor
open Go.RowKit Ar

/-- What the list of laid variables gives the walks. -/
def EnvR (w : World) : Prop := Lib.TabIs Tryz.prog w "internal/strconv.uint64pow10" .u64 Lib.pow10Tab ∧ 2 < w.heap.size
theorem EnvR.below {w w' : World} {B : Nat} (h : EnvR w) (hb : Below B w w') (h1 : 2 < B) : EnvR w' :=
  ⟨var?_below hb (by kernel_rfl) h1 h.1, Nat.lt_of_lt_of_le h.2 hb.size⟩
theorem EnvR.next {w w' : World} (h : EnvR w) (hb : Below w.heap.size w w') : EnvR w' := h.below hb h.2
theorem EnvR.alloc {w : World} (h : EnvR w) (o : Obj) : EnvR (w.alloc o) := h.next ((Below.refl _ _).alloc (Nat.le_refl _) _)
theorem EnvR.drewN {w : World} (h : EnvR w) (n : Nat) : EnvR (w.drewN n) := h

theorem itoa_any (d : Nat) (w : World) (hd : d < 1000000000) (he : EnvR w) :
    Calls Tryz.prog 179 #[.int .i64 d] w fun e w' => Below w.heap.size w w' ∧ e = .returned (.string ⟨(Lib.decDigits d).toArray⟩) := by
  refine (Tryz.strconv_Itoa d (by omega) (by omega) w he.1).mono ?_
  rintro e w' ⟨rfl, k, os, rfl⟩
  rw [Lib.itoa_nonneg]
  exact ⟨Lib.below_grow _ _ (Nat.le_refl _) _ _, rfl⟩
/-- Nine characters 0, as the program's text has them. -/
def nine : ByteArray := ⟨#[48, 48, 48, 48, 48, 48, 48, 48, 48]⟩
theorem nine_pad {d : Nat} (hd : d < 1000000000) : nine.extract (Lib.decDigits d).length 9 ++ ⟨(Lib.decDigits d).toArray⟩ = ⟨(pad 9 d).toArray⟩ := by
  have hl : (Lib.decDigits d).length ≤ 9 := decDigits_len_le (by decide) (by simpa using hd)
  have h := zeros_pad (n := 9 - (Lib.decDigits d).length) (k := 9) (d := d) (by omega)
  rw [← h]
  apply ByteArray.ext
  apply Array.ext'
  have e : nine.data.toList = List.replicate 9 48 := rfl
  simp only [ByteArray.data_append, ByteArray.data_extract, Array.toList_append, Array.toList_extract]
  rw [e, List.extract_eq_take_drop, List.drop_replicate, List.take_replicate, Nat.min_self]

theorem bsize (l : List UInt8) : (⟨l.toArray⟩ : ByteArray).size = l.length := by simp [ByteArray.size]
/-- A builder stays one where nothing of it is written. -/
theorem builder_next {B b : Nat} {bs : List Value} {w w' : World} (h : Lib.IsBuilder 214 5 B b bs w) (hb : Below w.heap.size w w') : Lib.IsBuilder 214 5 B b bs w' := by
  have go : ∀ p, Lib.BuilderAt 214 5 B b p bs w → Lib.BuilderAt 214 5 B b p bs w' := fun p hp => by
    have hlt := hp.lt
    obtain ⟨hB, v, hbk, hown, hne⟩ := hp
    refine ⟨hB, v, by rw [hb.block b hlt]; exact hbk, hown.kept (grown_of_below hb none) ?_, hne⟩
    cases v.ownBlock with
    | none => exact .inl rfl
    | some g => exact .inr (by simp)
  rcases h with h | h
  · exact .inl (go _ h)
  · exact .inr (go _ h)

set_option maxRecDepth 100000 in
set_option maxHeartbeats 3200000 in
theorem nstr_any (n : Nat) (v : Value) (w : World) (h : IsN w w.heap.size .u32 v n) (hl : (limbs n).length ≤ 10000000000000) (he : EnvR w) :
    Calls Tryz.prog 215 #[v] w fun e w' => Below w.heap.size w w' ∧ e = .returned (.string ⟨(Lib.decDigits n).toArray⟩) := by
  obtain ⟨A, c, rfl, hc, hr⟩ := h
  by_cases h0 : n = 0
  · subst h0
    have hz : limbs 0 = [] := by kernel_rfl
    rw [hz] at *
    go_enter Tryz.func215, Tryz.ntmps215
    go_wp2
    go_ret
    exact ⟨Below.refl _ _, by rw [decDigits_small (by decide)]; rfl⟩
  · obtain ⟨m, x, hmx, hx0⟩ := limbs_top (Nat.pos_of_ne_zero h0)
    have hs := Small.limbs n
    have hv := val_limbs n
    have hT := Lib.hid (show Lib.decDigits n = Lib.decDigits x ++ tail9 m by rw [← hv, hmx]; exact text_limbs (hmx ▸ hs) hx0)
    rw [hmx] at hr hl hc hs ⊢
    clear hv hmx h0
    simp only [List.length_append, List.length_singleton] at hl hc ⊢
    have hxB : x < 1000000000 := hs x (by simp)
    have hmS : ∀ y ∈ m, y < 1000000000 := fun y hy => hs y (by simp [hy])
    have hr1 := hr.alloc (Nat.le_refl _) (Obj.cells #[.pointer none, .slice none 0 0] 214)
    obtain ⟨ad, rfl, hab, hcx⟩ := hr1.int (j := m.length) (by simp)
    have e1 : (m ++ [x]).getD m.length 0 = x := by simp
    rw [e1] at hcx
    clear e1
    have hB0 : Below w.heap.size w (w.alloc (Obj.cells #[.pointer none, .slice none 0 0] 214)) := (Below.refl _ _).alloc (Nat.le_refl _) _
    have hI0 := Lib.hid (Lib.fresh_isBuilder 214 5 w)
    have hE0 := he.next hB0
    go_enter Tryz.func215, Tryz.ntmps215
    go_wp2_with fail
    refine (itoa_any x _ hxB hE0).mono ?_
    rintro e w1 ⟨hb1, rfl⟩
    have hI1 := builder_next hI0.out hb1
    have hB1 := hB0.trans (hb1.mono hB0.size)
    have hL1 : (Lib.decDigits x).length ≤ 9 := decDigits_len_le (by decide) hxB
    go_wp2_with fail
    refine (writeString_any w.heap.size w.heap.size [] ⟨(Lib.decDigits x).toArray⟩ w1 hI1 (by rw [bsize]; simp; omega) hB1.size).mono ?_
    rintro e w2 ⟨rfl, hI2, hb2⟩
    rw [Lib.strCells_toArray, List.nil_append] at hI2
    have hB2 := hB1.trans hb2
    have hE2 := he.next hB2
    have hr2 := hr.below hB2
    clear hI0 hI1 hb1 hb2 hB1 hB0 hr1 hE0 hcx
    go_wp2_with fail
    go_loopw [4] (fun i wr => ∃ t : Nat, t ≤ m.length ∧ i = .int .i64 ((t : Int) - 1) ∧ Lib.IsBuilder 214 5 w.heap.size w.heap.size (Lib.byteCells (Lib.decDigits x ++ tail9 (m.drop t))) wr ∧ Below w.heap.size w wr) (fun i _ => (intOf i + 1).toNat)
    case atStart =>
      refine ⟨m.length, Nat.le_refl _, ?_, ?_, hB2⟩
      · exact congrArg (Value.int .i64) (by omega)
      · rw [List.drop_length]
        exact .inr (by simpa [tail9] using hI2)
    case round =>
      obtain ⟨t, ht, rfl, hI, hB⟩ := hrel
      rcases t with _ | t
      · rw [List.drop_zero, ← hT.out] at hI
        go_wp2_with fail
        refine (Tryz.Builder_String_any w.heap.size w.heap.size _ wr hI hB.size).mono ?_
        rintro e w5 ⟨rfl, hb5⟩
        go_wp2
        go_ret
        exact ⟨hB.trans hb5, rfl⟩
      · have e1 : (((t + 1 : Nat) : Int) - 1) = (t : Int) := by omega
        rw [e1]
        obtain ⟨_, e2, _, hcx⟩ := (hr.below hB).int (j := t) (by simp; omega)
        injection e2 with e2
        subst e2
        obtain ⟨d, hd⟩ : ∃ d, (m ++ [x]).getD t 0 = d := ⟨_, rfl⟩
        have hdm : m.getD t 0 = d := by rw [← hd, List.getD_eq_getElem?_getD, List.getD_eq_getElem?_getD, List.getElem?_append_left (by omega)]
        rw [hd] at hcx
        have hdB : d < 1000000000 := by
          rw [← hdm, List.getD_eq_getElem?_getD, List.getElem?_eq_getElem (by omega)]
          exact hmS _ (List.getElem_mem _)
        have hL : (Lib.decDigits d).length ≤ 9 := decDigits_len_le (by decide) hdB
        have hE := he.next hB
        have hP := nine_pad hdB
        have hTT : Hid (tail9 (m.drop t) = tail9 (m.drop (t + 1)) ++ pad 9 d) := by
          show _ = _
          rw [← tail9_snoc, ← hdm, List.getD_eq_getElem?_getD, List.getElem?_eq_getElem (by omega), Option.getD_some, List.drop_eq_getElem_cons (by omega)]
        clear hd hdm e1
        go_wp2_with fail
        refine (itoa_any d _ hdB hE).mono ?_
        rintro e w3 ⟨hb3, rfl⟩
        have hI3 := builder_next hI hb3
        have hB3 := hB.trans (hb3.mono hB.size)
        go_wp2_with fail
        rw [show (⟨#[48, 48, 48, 48, 48, 48, 48, 48, 48]⟩ : ByteArray) = nine from rfl, hP]
        refine (writeString_any w.heap.size w.heap.size _ ⟨(pad 9 d).toArray⟩ w3 hI3 (by rw [bsize, pad_length, Lib.byteCells_length, List.length_append, tail9_len, List.length_drop]; omega) hB3.size).mono ?_
        rintro e w4 ⟨rfl, hI4, hb4⟩
        rw [Lib.strCells_toArray, ← Lib.byteCells_append, List.append_assoc, ← hTT.out] at hI4
        have hB4 := hB3.trans hb4
        have HI := Lib.hid hI4
        clear hI hI3 hI4 hcx hP hb3 hb4 hB3 hE
        go_wp2
        go_roundw
        case rel => exact ⟨t, by omega, rfl, .inr HI.out, hB4⟩
        case measure => simp [intOf]
end Go.Proofs.YtpkhgdnkkdhlcaaGreatDoor

namespace Go.Proofs.YtpkhgdnkkdhlcaaGreatDoor
open Go.RowKit Ar

theorem sz_neg (q : Rat) : sz (-q) = sz q := by unfold sz; rw [nm_neg, dn_neg]
theorem IsF.drew {w : World} {v : Value} {q : Rat} (h : IsF w w.heap.size v q) : IsF w.drew w.drew.heap.size v q := h

set_option maxRecDepth 100000 in
set_option maxHeartbeats 3200000 in
theorem fsub_any (p q : Rat) (v u : Value) (w : World) (h : IsF w w.heap.size v p) (h' : IsF w w.heap.size u q) (hl : sz p ≤ 200000000000) (hl' : sz q ≤ 200000000000) :
    Calls Tryz.prog 187 #[v, u] w fun e w' => Below w.heap.size w w' ∧ ∃ v, e = .returned v ∧ IsF w' w'.heap.size v (p - q) := by
  obtain ⟨s1, A1, l1, c1, A2, l2, c2, rfl⟩ := h.form
  obtain ⟨s2, A3, l3, c3, A4, l4, c4, rfl⟩ := h'.form
  have hR := Lib.hid (Rat.sub_eq_add_neg p q)
  have hl2 : sz (-q) ≤ 200000000000 := by rw [sz_neg]; exact hl'
  go_enter Tryz.func187, Tryz.ntmps187
  go_wp2_with fail
  refine wp_name (fun W => Below w.heap.size w W ∧ Bk W w.heap.size 102 #[.bool s1, .slice A1 l1 c1, .slice A2 l2 c2] ∧ Bk W (w.heap.size + 1) 102 #[.bool s2, .slice A3 l3 c3, .slice A4 l4 c4] ∧
    Bk W (w.heap.size + 1 + 1) 102 #[.bool false, .slice none 0 0, .slice none 0 0]) ⟨((below_alloc w _).alloc (by simp) _).alloc (by simp; omega) _, ((Bk.new _ _ _).alloc _).alloc _, (by simpa using ((Bk.new (w.alloc _) _ _).alloc _)), (by simpa using (Bk.new ((w.alloc _).alloc _) _ _))⟩ ?_
  rintro W ⟨hB, k1, k2, k3⟩
  obtain ⟨a0, a1, a2⟩ := bk3 k1
  obtain ⟨b0, b1, b2⟩ := bk3 k2
  have hlt := k3.lt
  have hp := (h.next hB).drew
  have hq := (h'.next hB).drew
  go_region_held3 (fun w' => w'.cell? ⟨w.heap.size, 0, none⟩ = some (.bool s1) ∧ w'.cell? ⟨w.heap.size, 1, none⟩ = some (.slice A1 l1 c1) ∧ w'.cell? ⟨w.heap.size, 2, none⟩ = some (.slice A2 l2 c2) ∧
      w'.cell? ⟨w.heap.size + 1, 0, none⟩ = some (.bool s2) ∧ w'.cell? ⟨w.heap.size + 1, 1, none⟩ = some (.slice A3 l3 c3) ∧ w'.cell? ⟨w.heap.size + 1, 2, none⟩ = some (.slice A4 l4 c4)) (first | with_reducible exact bk6 k11 k21 | with_reducible exact bk6 k12 k22 | exact bk6 kk1 kk2 | go_keep)
    (first
      | (go_at_call 214; ((with_reducible refine (fminus_any q _ _ hq).mono ?_)); rintro e w1 ⟨hb1, x1, rfl, hx1⟩; obtain ⟨t1, A5, l5, c5, A6, l6, c6, rfl⟩ := hx1.form; have k11 := k1.drew.below hb1 k1.lt; have k21 := k2.drew.below hb1 k2.lt; have k31 := k3.drew.below hb1 k3.lt; have hB1 := hB.drew.trans (hb1.mono hB.size); have hp1 := hp.next hb1)
      | (go_at_call 81; ((with_reducible refine (fadd_any p (-q) _ _ _ hp1 hx1 hl hl2).mono ?_)); rintro e w2 ⟨hb2, x2, rfl, hx2⟩; obtain ⟨t2, A7, l7, c7, A8, l8, c8, rfl⟩ := hx2.form; have k12 := k11.below hb2 k11.lt; have k22 := k21.below hb2 k21.lt; have k32 := k31.below hb2 k31.lt; have hB2 := hB1.trans (hb2.mono hB1.size); obtain ⟨d0, d1, d2⟩ := bk3 k32; have f0 := k32.frozen 0; have f1 := k32.frozen 1; have f2 := k32.frozen 2; have kk1 := bk_far3 (b' := w.heap.size + 1 + 1) (x := .bool t2) (y := .slice A7 l7 c7) (z := .slice A8 l8 c8) k12 (by omega); have kk2 := bk_far3 (b' := w.heap.size + 1 + 1) (x := .bool t2) (y := .slice A7 l7 c7) (z := .slice A8 l8 c8) k22 (by omega)))
  go_wp2
  refine bodyPost_ret (v := .agg #[.bool t2, .slice A7 l7 c7, .slice A8 l8 c8]) (by simp [results, Tryz.results187, go_sem, d0, d1, d2]) rfl ?_
  refine ⟨set3_below hB2 (by omega), _, rfl, ?_⟩
  rw [hR.out]
  exact (hx2.set3 k32 (.bool t2) (.slice A7 l7 c7) (.slice A8 l8 c8)).more (by rw [show (World.setCell _ _ _) = set3 w2 (w.heap.size + 1 + 1) (.bool t2) (.slice A7 l7 c7) (.slice A8 l8 c8) from rfl, set3_size]; exact Nat.le_refl _)

/-- The text of a fraction. -/
theorem ratText_parts (q : Rat) : ratText q = (if sg q then [45] else []) ++ (Lib.decDigits (nm q) ++ (if dn q = 1 then [] else 47 :: Lib.decDigits (dn q))) := by
  unfold ratText sg nm dn
  by_cases h : q < 0 <;> simp [h]
theorem text_len (n : Nat) : (Lib.decDigits n).length ≤ 9 * (limbs n).length + 1 := by
  rcases Nat.eq_zero_or_pos n with rfl | h
  · rw [decDigits_small (by decide)]; simp
  · obtain ⟨m, x, hmx, hx0⟩ := limbs_top h
    have hs := Small.limbs n
    have hv := val_limbs n
    rw [hmx] at hs
    have hx : x < 1000000000 := hs x (by simp)
    have h9 : (Lib.decDigits x).length ≤ 9 := decDigits_len_le (by decide) hx
    have e : Lib.decDigits n = Lib.decDigits x ++ tail9 m := by rw [← hv, hmx]; exact text_limbs hs hx0
    rw [e, hmx, List.length_append, List.length_append, tail9_len, List.length_singleton]
    omega
theorem str_app (a b : List UInt8) : (⟨a.toArray⟩ : ByteArray) ++ ⟨b.toArray⟩ = ⟨(a ++ b).toArray⟩ := by
  apply ByteArray.ext
  simp

set_option maxRecDepth 100000 in
set_option maxHeartbeats 3200000 in
theorem flong_any (p : Rat) (v : Value) (w : World) (h : IsF w w.heap.size v p) (hl : sz p ≤ 1000000000000) (he : EnvR w) :
    Calls Tryz.prog 216 #[v] w fun e w' => Below w.heap.size w w' ∧ e = .returned (.string ⟨(ratText p).toArray⟩) := by
  obtain ⟨N1, D1, rfl, hN1, hD1⟩ := h
  obtain ⟨A1, l1, c1, rfl⟩ := hN1.form
  obtain ⟨A2, l2, c2, rfl⟩ := hD1.form
  have HT := Lib.hid (ratText_parts p)
  have hln := sz_nm p
  have hld := sz_dn p
  have ht1 := text_len (nm p)
  have ht2 := text_len (dn p)
  have ht3 : (Lib.decDigits (nm p)).length ≤ 9000000000001 := by omega
  have ht4 : (Lib.decDigits (dn p)).length ≤ 9000000000001 := by omega
  clear ht1 ht2
  go_enter Tryz.func216, Tryz.ntmps216
  go_wp2_with fail
  have k1 := Bk.new w 102 #[Value.bool (sg p), .slice A1 l1 c1, .slice A2 l2 c2]
  have hB1 := below_alloc w (.cells #[Value.bool (sg p), .slice A1 l1 c1, .slice A2 l2 c2] 102)
  refine (nstr_any (nm p) _ _ (hN1.next hB1) (by omega) (he.next hB1)).mono ?_
  rintro e w1 ⟨hb1, rfl⟩
  have k2 := k1.below hb1 k1.lt
  have hB2 := hB1.trans (hb1.mono hB1.size)
  obtain ⟨d0, d1, d2⟩ := bk3 k2
  have hD2 := (hD1.next hB1).next hb1
  have hE2 := he.next hB2
  have hone := one_any (dn p) _ w1 hD2 (by omega)
  have e45 : ∀ l : List UInt8, (⟨#[45]⟩ : ByteArray) ++ ⟨l.toArray⟩ = ⟨(45 :: l).toArray⟩ := fun l => str_app [45] l
  have e47 : ∀ l : List UInt8, (⟨#[47]⟩ : ByteArray) ++ ⟨l.toArray⟩ = ⟨(47 :: l).toArray⟩ := fun l => str_app [47] l
  have E45 := Lib.hid e45
  have E47 := Lib.hid e47
  clear e45 e47 k1 hB1 hb1
  by_cases hd1 : dn p = 1
  · rw [if_pos hd1, List.append_nil] at HT
    rw [decide_eq_true hd1] at hone
    clear hd1
    cases hsg : sg p
    · rw [hsg] at d0 k2 HT
      go_wp2_with fail
      refine hone.mono ?_
      rintro e w2 ⟨rfl, rfl⟩
      go_wp2
      go_ret
      exact ⟨hB2, by rw [HT.out]; rfl⟩
    · rw [hsg] at d0 k2 HT
      go_wp2_with fail
      refine hone.mono ?_
      rintro e w2 ⟨rfl, rfl⟩
      go_wp2
      go_ret
      exact ⟨hB2, by rw [HT.out, E45.out]; rfl⟩
  · rw [if_neg hd1] at HT
    rw [decide_eq_false hd1] at hone
    clear hd1
    have hst := nstr_any (dn p) _ w1 hD2 (by omega) hE2
    cases hsg : sg p
    · rw [hsg] at d0 k2 HT
      go_wp2_with fail
      refine hone.mono ?_
      rintro e w2 ⟨rfl, rfl⟩
      go_wp2_with fail
      refine hst.mono ?_
      rintro e w3 ⟨hb3, rfl⟩
      go_wp2
      go_ret
      refine ⟨hB2.trans (hb3.mono hB2.size), ?_⟩
      rw [HT.out, E47.out, str_app]; rfl
    · rw [hsg] at d0 k2 HT
      go_wp2_with fail
      refine hone.mono ?_
      rintro e w2 ⟨rfl, rfl⟩
      go_wp2_with fail
      refine hst.mono ?_
      rintro e w3 ⟨hb3, rfl⟩
      go_wp2
      go_ret
      refine ⟨hB2.trans (hb3.mono hB2.size), ?_⟩
      rw [HT.out, E45.out, E47.out, str_app]; rfl
end Go.Proofs.YtpkhgdnkkdhlcaaGreatDoor

namespace Go.Proofs.YtpkhgdnkkdhlcaaGreatDoor
open Go.RowKit Ar

theorem sz_nr (s : Bool) (n d : Nat) (hd : 0 < d) : sz (nr s n d) ≤ max (limbs n).length (limbs d).length := by
  unfold sz nm dn
  rw [nr_abs s hd, nr_den s hd]
  have h1 := len_mono (Nat.div_le_self n (Nat.gcd n d))
  have h2 := len_mono (Nat.div_le_self d (Nat.gcd n d))
  omega
theorem sz_mul (p q : Rat) : sz (p * q) ≤ sz p + sz q := by
  rw [mul_nr]
  refine Nat.le_trans (sz_nr _ _ _ (Nat.mul_pos (dn_pos p) (dn_pos q))) ?_
  have h1 := len_mul_le (nm p) (nm q)
  have h2 := len_mul_le (dn p) (dn q)
  have := sz_nm p; have := sz_nm q; have := sz_dn p; have := sz_dn q
  omega
theorem sz_add (p q : Rat) : sz (p + q) ≤ sz p + sz q + 1 := by
  have h1 := len_mul_le (nm p) (dn q)
  have h2 := len_mul_le (nm q) (dn p)
  have h3 := len_mul_le (dn p) (dn q)
  have h4 := len_add_le (nm p * dn q) (nm q * dn p)
  have := sz_nm p; have := sz_nm q; have := sz_dn p; have := sz_dn q
  have hd := Nat.mul_pos (dn_pos p) (dn_pos q)
  by_cases hs : sg p = sg q
  · rw [add_same p q hs]
    refine Nat.le_trans (sz_nr _ _ _ hd) ?_
    omega
  · by_cases hge : nm q * dn p ≤ nm p * dn q
    · rw [add_ge p q hs hge]
      refine Nat.le_trans (sz_nr _ _ _ hd) ?_
      have := len_mono (Nat.sub_le (nm p * dn q) (nm q * dn p))
      omega
    · rw [add_lt p q hs (by omega)]
      refine Nat.le_trans (sz_nr _ _ _ hd) ?_
      have := len_mono (Nat.sub_le (nm q * dn p) (nm p * dn q))
      omega
theorem sz_sub (p q : Rat) : sz (p - q) ≤ sz p + sz q + 1 := by
  rw [Rat.sub_eq_add_neg]
  have := sz_add p (-q)
  rw [sz_neg] at this
  exact this
theorem sz_div (p q : Rat) (h : q ≠ 0) : sz (p / q) ≤ sz p + sz q := by
  rw [div_nr p q h]
  have h1 := len_mul_le (nm p) (dn q)
  have h2 := len_mul_le (dn p) (nm q)
  have := sz_nm p; have := sz_nm q; have := sz_dn p; have := sz_dn q
  refine Nat.le_trans (sz_nr _ _ _ (Nat.mul_pos (dn_pos p) ?_)) (by omega)
  exact Nat.pos_of_ne_zero fun e => h (nm_zero.1 e)
theorem sz_small (n : Int) (h : n.natAbs < 1000000000) : sz (n : Rat) ≤ 1 := by
  unfold sz nm dn
  rw [Rat.num_intCast, Rat.den_intCast]
  have h1 : (limbs 1).length ≤ 1 := limbs_len_le (by decide)
  have h2 : (limbs n.natAbs).length ≤ 1 := limbs_len_le (by show n.natAbs < B ^ 1; unfold B; omega)
  omega
theorem ratText_len (q : Rat) : (ratText q).length ≤ 18 * sz q + 4 := by
  rw [ratText_parts]
  have h1 := text_len (nm q)
  have h2 := text_len (dn q)
  have h3 := sz_nm q
  have h4 := sz_dn q
  rw [List.length_append, List.length_append]
  have e1 : (if sg q = true then [45] else [] : List UInt8).length ≤ 1 := by split <;> simp
  have e2 : (if dn q = 1 then [] else 47 :: Lib.decDigits (dn q) : List UInt8).length ≤ (Lib.decDigits (dn q)).length + 1 := by split <;> simp
  omega
end Go.Proofs.YtpkhgdnkkdhlcaaGreatDoor

namespace Go.Proofs.YtpkhgdnkkdhlcaaGreatDoor
open Go.RowKit Ar

/-- A number's cells. -/
structure Fx where
  b1 : Bool
  n1 : Value
  d1 : Value
def Fx.cells (s : Fx) : List Value := [.bool s.b1, s.n1, s.d1]
def Fx.val (s : Fx) : Value := .agg #[.bool s.b1, s.n1, s.d1]
def frow (S : List Fx) : List Value := S.flatMap Fx.cells
theorem frow_len (S : List Fx) : (frow S).length = S.length * 3 := by
  induction S with
  | nil => rfl
  | cons s S ih => show (s.cells ++ frow S).length = _; rw [List.length_append, ih]; simp [Fx.cells]; omega
theorem frow_app (S T : List Fx) : frow (S ++ T) = frow S ++ frow T := List.flatMap_append
theorem frow_at {S : List Fx} {i : Nat} {s : Fx} (h : S[i]? = some s) (j : Nat) (hj : j < 3) : (frow S)[i * 3 + j]? = s.cells[j]? := by
  induction S generalizing i with
  | nil => simp at h
  | cons q S ih =>
    have hq : q.cells.length = 3 := rfl
    show (q.cells ++ frow S)[i * 3 + j]? = _
    cases i with
    | zero =>
      simp at h; subst h
      rw [Nat.zero_mul, Nat.zero_add, List.getElem?_append_left (by omega)]
    | succ i =>
      rw [List.getElem?_append_right (by omega), hq, show (i + 1) * 3 + j - 3 = i * 3 + j by omega]
      exact ih (by simpa using h)
/-- Three cells from a place on. -/
def Thr (w : World) (p : Addr) (s : Fx) : Prop :=
  w.cell? p = some (.bool s.b1) ∧ w.cell? ⟨p.block, p.off + 1, none⟩ = some s.n1 ∧ w.cell? ⟨p.block, p.off + 2, none⟩ = some s.d1
theorem Rd.fracAt {w : World} {B : Nat} {A : Option Addr} {S : List Fx} (h : Rd w B A (frow S)) {i : Nat} {s : Fx} (hs : S[i]? = some s) : ∃ ad, A = some ad ∧ ad.block < B ∧ Thr w (ad.add (i * 3)) s := by
  have h0 := frow_at hs 0 (by omega)
  obtain ⟨ad, e, hb, hc⟩ := h (by intro e; rw [e] at h0; simp [Fx.cells] at h0)
  refine ⟨ad, e, hb, hc _ _ h0, ?_, ?_⟩
  · rw [addr_plus ad (i * 3) 0]; exact hc _ _ (frow_at hs 1 (by omega))
  · rw [addr_plus ad (i * 3) 1]; exact hc _ _ (frow_at hs 2 (by omega))

/-- A number in memory. -/
def IsFx (w : World) (B : Nat) (s : Fx) (p : Rat) : Prop := IsF w B (.agg #[.bool s.b1, s.n1, s.d1]) p
theorem IsFx.kept {w w' : World} {B : Nat} {s : Fx} {p : Rat} (h : IsFx w B s p) (hg : Ints w w') : IsFx w' B s p := IsF.kept (v := .agg #[.bool s.b1, s.n1, s.d1]) h hg
/-- A list of numbers in memory. -/
def IsFs (w : World) (B : Nat) (v : Value) (l : List Rat) : Prop :=
  ∃ A c S, v = .slice A l.length c ∧ l.length ≤ c ∧ S.length = l.length ∧ Rd w B A (frow S) ∧ ∀ (i : Nat) (p : Rat), l[i]? = some p → ∃ s, S[i]? = some s ∧ IsFx w B s p
theorem IsFx.more {w : World} {B B' : Nat} {s : Fx} {p : Rat} (h : IsFx w B s p) (hB : B ≤ B') : IsFx w B' s p := IsF.more (v := .agg #[.bool s.b1, s.n1, s.d1]) h hB
theorem IsFx.below {w w' : World} {B : Nat} {s : Fx} {p : Rat} (h : IsFx w B s p) (hb : Below B w w') : IsFx w' B s p := IsF.below (v := .agg #[.bool s.b1, s.n1, s.d1]) h hb
theorem IsFx.next {w w' : World} {s : Fx} {p : Rat} (h : IsFx w w.heap.size s p) (hb : Below w.heap.size w w') : IsFx w' w'.heap.size s p := (h.below hb).more hb.size
theorem IsFs.more {w : World} {B B' : Nat} {v : Value} {l : List Rat} (h : IsFs w B v l) (hB : B ≤ B') : IsFs w B' v l := by
  obtain ⟨A, c, S, e, h1, h2, h3, h4⟩ := h
  exact ⟨A, c, S, e, h1, h2, h3.more hB, fun i x hx => by obtain ⟨u, k1, k2⟩ := h4 i x hx; exact ⟨u, k1, k2.more hB⟩⟩
theorem IsFs.below {w w' : World} {B : Nat} {v : Value} {l : List Rat} (h : IsFs w B v l) (hb : Below B w w') : IsFs w' B v l := by
  obtain ⟨A, c, S, e, h1, h2, h3, h4⟩ := h
  exact ⟨A, c, S, e, h1, h2, h3.below hb, fun i x hx => by obtain ⟨u, k1, k2⟩ := h4 i x hx; exact ⟨u, k1, k2.below hb⟩⟩
theorem IsFs.next {w w' : World} {v : Value} {l : List Rat} (h : IsFs w w.heap.size v l) (hb : Below w.heap.size w w') : IsFs w' w'.heap.size v l := (h.below hb).more hb.size
/-- A list of numbers under way: a row of the call's own. -/
def OwnFs (w : World) (base : Nat) (v : Value) (l : List Rat) : Prop :=
  ∃ S : List Fx, S.length = l.length ∧ w.ownsRow base 102 3 v l.length (frow S) ∧ NoIntB w v.ownBlock ∧ ∀ (i : Nat) (p : Rat), l[i]? = some p → ∃ s, S[i]? = some s ∧ IsFx w w.heap.size s p
theorem OwnFs.nil (w : World) (base : Nat) : OwnFs w base (.slice none 0 0) [] := ⟨[], rfl, World.ownsRow_nil _ _ _ _, fun b hb => by simp [Value.ownBlock] at hb, fun i p h => by simp at h⟩
theorem OwnFs.form {w : World} {base : Nat} {v : Value} {l : List Rat} (h : OwnFs w base v l) : ∃ A c, v = .slice A l.length c := by
  obtain ⟨S, _, hown, _⟩ := h
  rcases hown.2 with ⟨rfl, e⟩ | ⟨g, cap, cur, rfl, _⟩
  · exact ⟨none, 0, by rw [e]⟩
  · exact ⟨_, _, rfl⟩
theorem OwnFs.is {w : World} {base : Nat} {v : Value} {l : List Rat} (h : OwnFs w base v l) : IsFs w w.heap.size v l := by
  obtain ⟨S, h1, hown, _, h2⟩ := h
  have hrd := hown.2
  obtain ⟨A, c, e, hc⟩ : ∃ A c, v = .slice A l.length c ∧ l.length ≤ c := by
    rcases hrd with ⟨rfl, e⟩ | ⟨g, cap, cur, rfl, _, _, hnc, _⟩
    · exact ⟨none, 0, by rw [e], by omega⟩
    · exact ⟨_, _, rfl, hnc⟩
  subst e
  exact ⟨A, c, S, rfl, hc, h1, Rd.of_own hown, h2⟩
theorem OwnFs.keep {w w' : World} {base : Nat} {v : Value} {l : List Rat} (h : OwnFs w base v l) (hb : Below w.heap.size w w') : OwnFs w' base v l := by
  obtain ⟨S, h1, hown, hni, h2⟩ := h
  refine ⟨S, h1, hown.kept (grown_of_below hb none) ?_, fun b hbk j k i hc => ?_, fun i p hp => ?_⟩
  · cases v.ownBlock with
    | none => exact .inl rfl
    | some g => exact .inr (by simp)
  · have hlt : b < w.heap.size := by
      rcases hown.2 with ⟨rfl, _⟩ | ⟨g, cap, cur, rfl, _, hg, _⟩
      · simp [Value.ownBlock] at hbk
      · have : g = b := by simpa [Value.ownBlock] using hbk
        subst this
        exact (Array.getElem?_eq_some_iff.1 hg).1
    exact hni b hbk j k i ((hb.cell (p := ⟨b, j, none⟩) hlt).symm.trans hc)
  · obtain ⟨s, k1, k2⟩ := h2 i p hp
    exact ⟨s, k1, k2.next hb⟩
theorem OwnFs.add {w w' : World} {base : Nat} {v v' : Value} {l : List Rat} {p : Rat} {S : List Fx} {s : Fx} (h1 : S.length = l.length) (hni : NoIntB w v.ownBlock) (h2 : ∀ (i : Nat) (p : Rat), l[i]? = some p → ∃ s, S[i]? = some s ∧ IsFx w w.heap.size s p)
    (hs : IsFx w w.heap.size s p) (hown : w'.ownsRow base 102 3 v' (l.length + 1) (frow S ++ s.cells)) (hg : w.grownBy w' v.ownBlock) (hn' : NoIntB w' v'.ownBlock) : OwnFs w' base v' (l ++ [p]) := by
  have hI := ints_grown hg hni
  refine ⟨S ++ [s], by simp [h1], ?_, hn', fun i q hq => ?_⟩
  · rw [List.length_append, List.length_singleton, frow_app]
    have e : frow [s] = s.cells := by simp [frow]
    rw [e]; exact hown
  · rcases Nat.lt_or_ge i l.length with hi | hi
    · rw [List.getElem?_append_left hi] at hq
      obtain ⟨s', k1, k2⟩ := h2 i q hq
      exact ⟨s', by rw [List.getElem?_append_left (by omega)]; exact k1, (k2.kept hI).more hg.size⟩
    · rw [List.getElem?_append_right hi] at hq
      have hi0 : i - l.length = 0 := by
        rcases Nat.eq_zero_or_pos (i - l.length) with h0 | h0
        · exact h0
        · rw [List.getElem?_eq_none (by simp; omega)] at hq; cases hq
      rw [hi0] at hq
      simp at hq
      subst hq
      exact ⟨s, by rw [List.getElem?_append_right (by omega), h1, hi0]; rfl, (hs.kept hI).more hg.size⟩
theorem IsFx.form {w : World} {B : Nat} {s : Fx} {p : Rat} (h : IsFx w B s p) : ∃ t A l c A' l' c', s = ⟨t, .slice A l c, .slice A' l' c'⟩ := by
  obtain ⟨b1, n1, d1⟩ := s
  obtain ⟨t, A, l, c, A', l', c', e1⟩ := IsF.form (v := .agg #[.bool b1, n1, d1]) h
  simp at e1
  obtain ⟨rfl, rfl, rfl⟩ := e1
  exact ⟨_, _, _, _, _, _, _, rfl⟩
theorem IsFs.form {w : World} {B : Nat} {v : Value} {l : List Rat} (h : IsFs w B v l) : ∃ A c, v = .slice A l.length c ∧ l.length ≤ c := by
  obtain ⟨A, c, _, e, h1, _⟩ := h
  exact ⟨A, c, e, h1⟩
end Go.Proofs.YtpkhgdnkkdhlcaaGreatDoor

namespace Go.Proofs.YtpkhgdnkkdhlcaaGreatDoor
open Go.RowKit Ar

theorem Tryz.frac_info : (Tryz.prog.info? 102).map (fun i => (i.zero, i.size, i.bytes)) = some (some (.agg #[.bool false, .slice none 0 0, .slice none 0 0]), 3, 56) := by kernel_rfl
/-- The sum of numbers. -/
def rsum : List Rat → Rat
  | [] => 0
  | q :: l => q + rsum l
theorem rsum_app (l m : List Rat) : rsum (l ++ m) = rsum l + rsum m := by
  induction l with
  | nil => show rsum m = 0 + rsum m; grind
  | cons q l ih => show q + rsum (l ++ m) = q + rsum l + rsum m; rw [ih]; grind
theorem sz_rsum {M : Nat} : ∀ l : List Rat, (∀ q ∈ l, sz q ≤ M) → sz (rsum l) ≤ l.length * (M + 1) + 1
  | [], _ => by show sz ((0 : Int) : Rat) ≤ _; have := sz_small 0 (by decide); omega
  | q :: l, h => by
    have h1 := sz_rsum l (fun q hq => h q (by simp [hq]))
    have h2 := h q (by simp)
    have h3 := sz_add q (rsum l)
    show sz (q + rsum l) ≤ (l.length + 1) * (M + 1) + 1
    rw [Nat.add_mul]
    omega
theorem frow_take (S : List Fx) (k : Nat) : (frow S).take (k * 3) = frow (S.take k) := by
  induction S generalizing k with
  | nil => simp [frow]
  | cons s S ih =>
    cases k with
    | zero => simp [frow]
    | succ k =>
      show (s.cells ++ frow S).take ((k + 1) * 3) = s.cells ++ frow (S.take k)
      rw [List.take_append, show s.cells.length = 3 from rfl, List.take_of_length_le (by show 3 ≤ _; omega), show (k + 1) * 3 - 3 = k * 3 by omega, ih]
theorem frow_drop (S : List Fx) (k : Nat) : (frow S).drop (k * 3) = frow (S.drop k) := by
  induction S generalizing k with
  | nil => simp [frow]
  | cons s S ih =>
    cases k with
    | zero => simp [frow]
    | succ k =>
      show (s.cells ++ frow S).drop ((k + 1) * 3) = frow (S.drop k)
      rw [List.drop_append, show s.cells.length = 3 from rfl, List.drop_of_length_le (by show 3 ≤ _; omega), show (k + 1) * 3 - 3 = k * 3 by omega, ih, List.nil_append]
theorem IsFs.take {w : World} {B : Nat} {A : Option Addr} {n c : Nat} {l : List Rat} (h : IsFs w B (.slice A n c) l) {k : Nat} (hk : k ≤ n) : IsFs w B (.slice A k c) (l.take k) := by
  obtain ⟨A', c', S, e, h1, h2, h3, h4⟩ := h
  simp at e
  obtain ⟨rfl, rfl, rfl⟩ := e
  have hl : (l.take k).length = k := by rw [List.length_take]; omega
  refine ⟨A, c, S.take k, by rw [hl], by omega, by rw [List.length_take, List.length_take]; omega, ?_, fun i p hp => ?_⟩
  · rw [← frow_take]; exact h3.take _
  · have hi : i < k := by have := (List.getElem?_eq_some_iff.1 hp).1; omega
    rw [List.getElem?_take_of_lt hi] at hp
    rw [List.getElem?_take_of_lt hi]
    exact h4 i p hp
theorem IsFs.drop {w : World} {B : Nat} {ad : Addr} {n c : Nat} {l : List Rat} (h : IsFs w B (.slice (some ad) n c) l) {k : Nat} (hk : k ≤ n) : IsFs w B (.slice (some (ad.add (k * 3))) (n - k) (c - k)) (l.drop k) := by
  obtain ⟨A', c', S, e, h1, h2, h3, h4⟩ := h
  simp at e
  obtain ⟨rfl, rfl, rfl⟩ := e
  refine ⟨some (ad.add (k * 3)), c - k, S.drop k, by rw [List.length_drop], by rw [List.length_drop]; omega, by rw [List.length_drop, List.length_drop]; omega, ?_, fun i p hp => ?_⟩
  · rw [← frow_drop]
    intro hn
    obtain ⟨a, e, hb, hc⟩ := h3 (by intro e; rw [e] at hn; simp at hn)
    cases e
    refine ⟨_, rfl, by rw [addr_block]; exact hb, fun j u hu => ?_⟩
    rw [addr_add]
    exact hc _ u (by rw [← hu, List.getElem?_drop])
  · rw [List.getElem?_drop] at hp
    obtain ⟨s, k1, k2⟩ := h4 _ p hp
    exact ⟨s, by rw [List.getElem?_drop]; exact k1, k2⟩

end Go.Proofs.YtpkhgdnkkdhlcaaGreatDoor
