/-
  Walks: package ratio's natural numbers: String.
-/
import Derived.Test.YtpkhgdnkkdhlcaaGreatDoorNatU
import Derived.Test.YtpkhgdnkkdhlcaaGreatDoorWordsB
import Derived.Test.YtpkhgdnkkdhlcaaGreatDoorTxt
import Derived.Test.YtpkhgdnkkdhlcaaGreatDoorStrB
import Derived.Test.YtpkhgdnkkdhlcaaGreatDoorShelf
import Derived.Lib.AppendIntMem
import Derived.Lib.ItoaMem
import Derived.LoopTactic
import Derived.WalkSmall
namespace Go.Proofs.YtpkhgdnkkdhlcaaGreatDoor
open Go.RowKit Ar

/-- What the list of laid variables gives the walks. -/
def EnvR (w : World) : Prop := Lib.TabIs Tryz.prog w "internal/strconv.uint64pow10" .u64 Lib.pow10Tab ∧ 2 < w.heap.size
theorem EnvR.below {w w' : World} {B : Nat} (h : EnvR w) (hb : Below B w w') (h1 : 2 < B) : EnvR w' :=
  ⟨var?_below hb (by kernel_rfl) h1 h.1, Nat.lt_of_lt_of_le h.2 hb.size⟩
theorem EnvR.next {w w' : World} (h : EnvR w) (hb : Below w.heap.size w w') : EnvR w' := h.below hb h.2
theorem EnvR.alloc {w : World} (h : EnvR w) (o : Obj) : EnvR (w.alloc o) := h.next ((Below.refl _ _).alloc (Nat.le_refl _) _)
theorem EnvR.drewN {w : World} (h : EnvR w) (n : Nat) : EnvR (w.drewN n) := h

theorem itoa_any (d : Nat) (w : World) (hd : d < 1000000000) (he : EnvR w) :
    Calls Tryz.prog 179 #[.int .i64 d] w fun e w' => Below w.heap.size w w' ∧ e = .returned (.string ⟨(Lib.decDigits d).toArray⟩) := by
  refine (Tryz.strconv_Itoa d (by omega) (by omega) w he.1).mono ?_
  rintro e w' ⟨rfl, k, os, rfl⟩
  rw [Lib.itoa_nonneg]
  exact ⟨Lib.below_grow _ _ (Nat.le_refl _) _ _, rfl⟩
/-- Nine characters 0, as the program's text has them. -/
def nine : ByteArray := ⟨#[48, 48, 48, 48, 48, 48, 48, 48, 48]⟩
theorem nine_pad {d : Nat} (hd : d < 1000000000) : nine.extract (Lib.decDigits d).length 9 ++ ⟨(Lib.decDigits d).toArray⟩ = ⟨(pad 9 d).toArray⟩ := by
  have hl : (Lib.decDigits d).length ≤ 9 := decDigits_len_le (by decide) (by simpa using hd)
  have h := zeros_pad (n := 9 - (Lib.decDigits d).length) (k := 9) (d := d) (by omega)
  rw [← h]
  apply ByteArray.ext
  apply Array.ext'
  have e : nine.data.toList = List.replicate 9 48 := rfl
  simp only [ByteArray.data_append, ByteArray.data_extract, Array.toList_append, Array.toList_extract]
  rw [e, List.extract_eq_take_drop, List.drop_replicate, List.take_replicate, Nat.min_self]

theorem bsize (l : List UInt8) : (⟨l.toArray⟩ : ByteArray).size = l.length := by simp [ByteArray.size]
/-- A builder stays one where nothing of it is written. -/
theorem builder_next {B b : Nat} {bs : List Value} {w w' : World} (h : Lib.IsBuilder 214 5 B b bs w) (hb : Below w.heap.size w w') : Lib.IsBuilder 214 5 B b bs w' := by
  have go : ∀ p, Lib.BuilderAt 214 5 B b p bs w → Lib.BuilderAt 214 5 B b p bs w' := fun p hp => by
    have hlt := hp.lt
    obtain ⟨hB, v, hbk, hown, hne⟩ := hp
    refine ⟨hB, v, by rw [hb.block b hlt]; exact hbk, hown.kept (grown_of_below hb none) ?_, hne⟩
    cases v.ownBlock with
    | none => exact .inl rfl
    | some g => exact .inr (by simp)
  rcases h with h | h
  · exact .inl (go _ h)
  · exact .inr (go _ h)

set_option maxRecDepth 100000 in
set_option maxHeartbeats 3200000 in
theorem nstr_any (n : Nat) (v : Value) (w : World) (h : IsN w w.heap.size .u32 v n) (hl : (limbs n).length ≤ 10000000000000) (he : EnvR w) :
    Calls Tryz.prog 215 #[v] w fun e w' => Below w.heap.size w w' ∧ e = .returned (.string ⟨(Lib.decDigits n).toArray⟩) := by
  obtain ⟨A, c, rfl, hc, hr⟩ := h
  by_cases h0 : n = 0
  · subst h0
    have hz : limbs 0 = [] := by kernel_rfl
    rw [hz] at *
    go_enter Tryz.func215, Tryz.ntmps215
    go_wp2
    go_ret
    exact ⟨Below.refl _ _, by rw [decDigits_small (by decide)]; rfl⟩
  · obtain ⟨m, x, hmx, hx0⟩ := limbs_top (Nat.pos_of_ne_zero h0)
    have hs := Small.limbs n
    have hv := val_limbs n
    have hT := Lib.hid (show Lib.decDigits n = Lib.decDigits x ++ tail9 m by rw [← hv, hmx]; exact text_limbs (hmx ▸ hs) hx0)
    rw [hmx] at hr hl hc hs ⊢
    clear hv hmx h0
    simp only [List.length_append, List.length_singleton] at hl hc ⊢
    have hxB : x < 1000000000 := hs x (by simp)
    have hmS : ∀ y ∈ m, y < 1000000000 := fun y hy => hs y (by simp [hy])
    have hr1 := hr.alloc (Nat.le_refl _) (Obj.cells #[.pointer none, .slice none 0 0] 214)
    obtain ⟨ad, rfl, hab, hcx⟩ := hr1.int (j := m.length) (by simp)
    have e1 : (m ++ [x]).getD m.length 0 = x := by simp
    rw [e1] at hcx
    clear e1
    have hB0 : Below w.heap.size w (w.alloc (Obj.cells #[.pointer none, .slice none 0 0] 214)) := (Below.refl _ _).alloc (Nat.le_refl _) _
    have hI0 := Lib.hid (Lib.fresh_isBuilder 214 5 w)
    have hE0 := he.next hB0
    go_enter Tryz.func215, Tryz.ntmps215
    go_wp2_with fail
    refine (itoa_any x _ hxB hE0).mono ?_
    rintro e w1 ⟨hb1, rfl⟩
    have hI1 := builder_next hI0.out hb1
    have hB1 := hB0.trans (hb1.mono hB0.size)
    have hL1 : (Lib.decDigits x).length ≤ 9 := decDigits_len_le (by decide) hxB
    go_wp2_with fail
    refine (writeString_any w.heap.size w.heap.size [] ⟨(Lib.decDigits x).toArray⟩ w1 hI1 (by rw [bsize]; simp; omega) hB1.size).mono ?_
    rintro e w2 ⟨rfl, hI2, hb2⟩
    rw [Lib.strCells_toArray, List.nil_append] at hI2
    have hB2 := hB1.trans hb2
    have hE2 := he.next hB2
    have hr2 := hr.below hB2
    clear hI0 hI1 hb1 hb2 hB1 hB0 hr1 hE0 hcx
    go_wp2_with fail
    go_loopw [4] (fun i wr => ∃ t : Nat, t ≤ m.length ∧ i = .int .i64 ((t : Int) - 1) ∧ Lib.IsBuilder 214 5 w.heap.size w.heap.size (Lib.byteCells (Lib.decDigits x ++ tail9 (m.drop t))) wr ∧ Below w.heap.size w wr) (fun i _ => (intOf i + 1).toNat)
    case atStart =>
      refine ⟨m.length, Nat.le_refl _, ?_, ?_, hB2⟩
      · exact congrArg (Value.int .i64) (by omega)
      · rw [List.drop_length]
        exact .inr (by simpa [tail9] using hI2)
    case round =>
      obtain ⟨t, ht, rfl, hI, hB⟩ := hrel
      rcases t with _ | t
      · rw [List.drop_zero, ← hT.out] at hI
        go_wp2_with fail
        refine (Tryz.Builder_String_any w.heap.size w.heap.size _ wr hI hB.size).mono ?_
        rintro e w5 ⟨rfl, hb5⟩
        go_wp2
        go_ret
        exact ⟨hB.trans hb5, rfl⟩
      · have e1 : (((t + 1 : Nat) : Int) - 1) = (t : Int) := by omega
        rw [e1]
        obtain ⟨_, e2, _, hcx⟩ := (hr.below hB).int (j := t) (by simp; omega)
        injection e2 with e2
        subst e2
        obtain ⟨d, hd⟩ : ∃ d, (m ++ [x]).getD t 0 = d := ⟨_, rfl⟩
        have hdm : m.getD t 0 = d := by rw [← hd, List.getD_eq_getElem?_getD, List.getD_eq_getElem?_getD, List.getElem?_append_left (by omega)]
        rw [hd] at hcx
        have hdB : d < 1000000000 := by
          rw [← hdm, List.getD_eq_getElem?_getD, List.getElem?_eq_getElem (by omega)]
          exact hmS _ (List.getElem_mem _)
        have hL : (Lib.decDigits d).length ≤ 9 := decDigits_len_le (by decide) hdB
        have hE := he.next hB
        have hP := nine_pad hdB
        have hTT : Hid (tail9 (m.drop t) = tail9 (m.drop (t + 1)) ++ pad 9 d) := by
          show _ = _
          rw [← tail9_snoc, ← hdm, List.getD_eq_getElem?_getD, List.getElem?_eq_getElem (by omega), Option.getD_some, List.drop_eq_getElem_cons (by omega)]
        clear hd hdm e1
        go_wp2_with fail
        refine (itoa_any d _ hdB hE).mono ?_
        rintro e w3 ⟨hb3, rfl⟩
        have hI3 := builder_next hI hb3
        have hB3 := hB.trans (hb3.mono hB.size)
        go_wp2_with fail
        rw [show (⟨#[48, 48, 48, 48, 48, 48, 48, 48, 48]⟩ : ByteArray) = nine from rfl, hP]
        refine (writeString_any w.heap.size w.heap.size _ ⟨(pad 9 d).toArray⟩ w3 hI3 (by rw [bsize, pad_length, Lib.byteCells_length, List.length_append, tail9_len, List.length_drop]; omega) hB3.size).mono ?_
        rintro e w4 ⟨rfl, hI4, hb4⟩
        rw [Lib.strCells_toArray, ← Lib.byteCells_append, List.append_assoc, ← hTT.out] at hI4
        have hB4 := hB3.trans hb4
        have HI := Lib.hid hI4
        clear hI hI3 hI4 hcx hP hb3 hb4 hB3 hE
        go_wp2
        go_roundw
        case rel => exact ⟨t, by omega, rfl, .inr HI.out, hB4⟩
        case measure => simp [intOf]
end Go.Proofs.YtpkhgdnkkdhlcaaGreatDoor

