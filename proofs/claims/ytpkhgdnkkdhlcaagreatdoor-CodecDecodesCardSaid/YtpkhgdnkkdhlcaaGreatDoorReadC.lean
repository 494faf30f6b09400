/-
  Walks: texts of numbers: plain, Digits, and the reading of integers.
  Walks: texts of numbers: Digits.
  Walks: texts of numbers: the reading of integers.
-/
import Derived.Test.YtpkhgdnkkdhlcaaGreatDoorNaX
import Derived.Test.YtpkhgdnkkdhlcaaGreatDoorNumX
import Derived.Outline
import Derived.Test.YtpkhgdnkkdhlcaaGreatDoorShelf
import Derived.Test.YtpkhgdnkkdhlcaaGreatDoorWordsC
import Derived.Lib.AtoiErrMem
import Derived.Test.YtpkhgdnkkdhlcaaGreatDoorFrX
namespace Go.Proofs.YtpkhgdnkkdhlcaaGreatDoor
open Go.RowKit Ar

/-- A bool that says whether. -/
def IsB (P : Prop) (e : Ending) : Prop := ∃ b : Bool, e = .returned (.bool b) ∧ (b = true ↔ P)
theorem digs_snoc {l : List UInt8} {b : UInt8} (h : Digs l) (h1 : ¬ b.toNat < 48) (h2 : ¬ 57 < b.toNat) : Digs (l ++ [b]) := fun c hc => by
  rcases List.mem_append.1 hc with h3 | h3
  · exact h c h3
  · simp at h3; subst h3; omega
theorem take_snoc (s : ByteArray) (k : Nat) (h : k < s.size) : s.data.toList.take (k + 1) = s.data.toList.take k ++ [s[k]] := by
  rw [List.take_succ_eq_append_getElem (by simpa using h)]; rfl
theorem bytes_at (s : ByteArray) (k : Nat) (h : k < s.size) : s[k] ∈ s.data.toList := by
  have : s[k] = s.data.toList[k]'(by simpa using h) := rfl
  rw [this]; exact List.getElem_mem _
theorem size_list (s : ByteArray) : s.data.toList.length = s.size := by rw [Array.length_toList]; rfl

theorem bs_toList (s : ByteArray) : s.toList = s.data.toList := by obtain ⟨⟨l⟩⟩ := s; simp
theorem head_of (s : ByteArray) (h : 0 < s.size) : s.data.toList.head? = some s[0] := by
  have e : s[0] = s.data.toList[0]'(by rw [size_list]; exact h) := rfl
  rw [e, List.head?_eq_getElem?, List.getElem?_eq_getElem]
theorem u8_eq {a b : UInt8} (h : a.toNat = b.toNat) : a = b := UInt8.toNat_inj.1 h
theorem plain_zero (s : ByteArray) (h : 0 < s.size) (hd : Digs s.data.toList) (h8 : s[0].toNat = 48) : ((!s.toList.isEmpty && s.toList == [48]) = true ↔ Canon s.data.toList) := by
  have e := head_of s h
  have e8 : s[0] = 48 := u8_eq h8
  rw [e8] at e
  rw [bs_toList]
  have hn : s.data.toList ≠ [] := by intro e0; rw [e0] at e; cases e
  constructor
  · intro h1
    simp only [Bool.and_eq_true, beq_iff_eq] at h1
    exact ⟨hd, hn, fun _ => h1.2⟩
  · intro hc
    rw [hc.2.2 e]; rfl
theorem plain_other (s : ByteArray) (h : 0 < s.size) (hd : Digs s.data.toList) (h8 : ¬ s[0].toNat = 48) : ((!s.toList.isEmpty) = true ↔ Canon s.data.toList) := by
  have e := head_of s h
  rw [bs_toList]
  have hn : s.data.toList ≠ [] := by intro e0; rw [e0] at e; cases e
  constructor
  · intro _
    refine ⟨hd, hn, fun e1 => ?_⟩
    rw [e] at e1
    injection e1 with e1
    rw [e1] at h8
    exact absurd rfl h8
  · intro _
    cases hl : s.data.toList with
    | nil => exact absurd hl hn
    | cons a b => rfl

set_option maxHeartbeats 800000 in
theorem plain_any (s : ByteArray) (w : World) (hs : s.size ≤ 4000000) :
    Calls Tryz.prog 212 #[.string s] w fun e w' => w = w' ∧ IsB (Canon s.data.toList) e := by
  go_enter Tryz.func212, Tryz.ntmps212
  go_wp2
  go_loop [6] (fun i => ∃ k : Nat, k ≤ s.size ∧ i = .int .i64 k ∧ Hid (Digs (s.data.toList.take k))) (fun i => s.size - (intOf i).toNat)
  case atStart => exact ⟨0, Nat.zero_le _, rfl, (show Digs _ from fun b hb => by simp at hb)⟩
  case round =>
    obtain ⟨k, hk, rfl, HD⟩ := hrel
    by_cases hlt : k < s.size
    · by_cases h1 : s[k].toNat < 48
      · have HN : Hid (¬ Canon s.data.toList) := fun hc => by have := hc.1 _ (bytes_at s k hlt); omega
        go_wp2
        go_ret
        exact ⟨rfl, false, rfl, by simpa using HN.out⟩
      · by_cases h2 : 57 < s[k].toNat
        · have HN : Hid (¬ Canon s.data.toList) := fun hc => by have := hc.1 _ (bytes_at s k hlt); omega
          go_wp2
          go_ret
          exact ⟨rfl, false, rfl, by simpa using HN.out⟩
        · have HD2 : Hid (Digs (s.data.toList.take (k + 1))) := by
            show Digs _
            rw [take_snoc s k hlt]; exact digs_snoc HD.out h1 h2
          go_wp2
          go_round
          case rel => exact ⟨k + 1, by omega, by go_num, HD2.out⟩
          case measure => simp [intOf]; omega
    · have HDs : Hid (Digs s.data.toList) := by
        have := HD.out
        rwa [List.take_of_length_le (by rw [size_list]; omega)] at this
      clear HD
      by_cases he : s.size = 0
      · have h0 : s.toList = [] := by rw [bs_toList]; exact List.eq_nil_of_length_eq_zero (by rw [size_list]; exact he)
        have HN : Hid (¬ Canon s.data.toList) := fun hc => hc.2.1 (List.eq_nil_of_length_eq_zero (by rw [size_list]; exact he))
        clear he
        go_wp2
        go_ret
        exact ⟨rfl, false, rfl, by simpa using HN.out⟩
      · have h0 : s.toList ≠ [] := by rw [bs_toList]; intro e; have := size_list s; rw [e] at this; exact he this.symm
        have hp : 0 < s.size := by omega
        by_cases h8 : s[0].toNat = 48
        · have h9 : ((s[0].toNat : Int) == 48) = true := by rw [h8]; rfl
          have h10 : ((s[0].toNat : Int) != 48) = false := by rw [h8]; rfl
          have HE := Lib.hid (plain_zero s hp HDs.out h8)
          go_wp2
          go_ret
          exact ⟨rfl, _, rfl, HE.out⟩
        · have h9 : ((s[0].toNat : Int) == 48) = false := by rw [beq_eq_false_iff_ne]; omega
          have h10 : ((s[0].toNat : Int) != 48) = true := by rw [bne_iff_ne]; omega
          have HE := Lib.hid (plain_other s hp HDs.out h8)
          go_wp2
          go_ret
          exact ⟨rfl, _, rfl, HE.out⟩
end Go.Proofs.YtpkhgdnkkdhlcaaGreatDoor

namespace Go.Proofs.YtpkhgdnkkdhlcaaGreatDoor
open Go.RowKit Ar

theorem Tryz.u32_row : (Tryz.prog.info? 105).map (fun i => (i.zero, i.size, i.bytes)) = some (some (.int .u32 0), 1, 4) := by kernel_rfl

theorem atoi_digs {l : List UInt8} (h : Digs l) (hn : l ≠ []) : Lib.atoi l = some ((dval l : Nat) : Int) := by
  cases l with
  | nil => exact absurd rfl hn
  | cons b r =>
    have h1 := h b (by simp)
    show (if (b == 45) = true then (Lib.decNat r).map fun (m : Nat) => -(m : Int) else if (b == 43) = true then (Lib.decNat r).map fun (m : Nat) => (m : Int) else (Lib.decNat (b :: r)).map fun (m : Nat) => (m : Int)) = _
    rw [if_neg (by intro e; have : b = 45 := by simpa using e
                   subst this; simp at h1), if_neg (by intro e; have : b = 43 := by simpa using e
                                                       subst this; simp at h1)]
    unfold Lib.decNat
    rw [if_neg (by simp), show Lib.decFrom 0 (b :: r) = some (dval (b :: r)) from decFrom_dval h]; rfl
theorem digs_take {l : List UInt8} (h : Digs l) (k : Nat) : Digs (l.take k) := fun b hb => h b (List.mem_of_mem_take hb)
theorem digs_drop {l : List UInt8} (h : Digs l) (k : Nat) : Digs (l.drop k) := fun b hb => h b (List.mem_of_mem_drop hb)
theorem dval_cut {l : List UInt8} (h : Digs l) (k : Nat) (hk : k = l.length - 9) : dval l = B * dval (l.take k) + dval (l.drop k) := by
  conv => lhs; rw [← List.take_append_drop k l]
  rw [dval_append (digs_take h k) (digs_drop h k)]
  rcases Nat.eq_zero_or_pos k with h0 | h0
  · subst h0; simp [dval_nil]
  · rw [List.length_drop, show l.length - k = 9 by omega, Nat.mul_comm, B_eq]
/-- What is left and what has been read. -/
def DigI (l t : List UInt8) (zs : List Nat) : Prop := Digs t ∧ t.length ≤ l.length ∧ Small zs ∧ val zs + B ^ zs.length * dval t = dval l ∧ zs.length + t.length ≤ l.length
theorem DigI.start {l : List UInt8} (h : Digs l) : DigI l l [] := ⟨h, Nat.le_refl _, Small.nil, by simp [val], by simp⟩
theorem DigI.step {l t : List UInt8} {zs : List Nat} (h : DigI l t zs) (k : Nat) (hk : k = t.length - 9) (h0 : 0 < t.length) : dval (t.drop k) < 1000000000 ∧ DigI l (t.take k) (zs ++ [dval (t.drop k)]) := by
  obtain ⟨h1, h2, h3, h4, h5⟩ := h
  have hlt : dval (t.drop k) < B := by
    have := dval_lt (digs_drop h1 k)
    refine Nat.lt_of_lt_of_le this ?_
    rw [B_eq, show 1000000000 = 10 ^ 9 from rfl]
    exact Nat.pow_le_pow_right (by decide) (by rw [List.length_drop]; omega)
  refine ⟨hlt, digs_take h1 k, by rw [List.length_take]; omega, h3.append (Small.cons hlt Small.nil), ?_, by simp only [List.length_append, List.length_take, List.length_singleton]; omega⟩
  rw [val_snoc, List.length_append, List.length_singleton, Nat.pow_succ, ← h4, dval_cut h1 k hk, Nat.mul_add]
  rw [Nat.mul_assoc]; omega
theorem DigI.stop {l : List UInt8} {zs : List Nat} (h : DigI l [] zs) : val zs = dval l := by
  have := h.2.2.2.1
  rw [dval_nil] at this; omega

set_option maxHeartbeats 1600000 in
theorem digits_any (s : ByteArray) (w : World) (hs : s.size ≤ 4000000) (hd : Digs s.data.toList) :
    Calls Tryz.prog 213 #[.string s] w fun e w' => Below w.heap.size w w' ∧ ∃ v, e = .returned v ∧ IsN w' w'.heap.size .u32 v (dval s.data.toList) := by
  obtain ⟨i0, hi0, hz0, hz1, hz2⟩ := info_parts Tryz.u32_row
  have HD := Lib.hid (DigI.start hd)
  have hl0 : s.data.toList.length ≤ 4000000 := by rw [size_list]; exact hs
  clear hd
  go_enter Tryz.func213, Tryz.ntmps213
  go_wp2
  go_loopw [0, 3] (fun x v wr => ∃ (t : ByteArray) (zs : List Nat), x = .string t ∧ t.size ≤ 4000000 ∧ zs.length ≤ 4000000 ∧ Hid (DigI s.data.toList t.data.toList zs) ∧ wr.ownsRow w.heap.size 105 1 v zs.length (ints .u32 zs) ∧ Below w.heap.size w wr) (fun x _ _ => (match x with | .string t => t.size | _ => 0))
  case atStart => exact ⟨s, [], rfl, hs, by simp, HD.out, World.ownsRow_nil _ _ _ _, Below.refl _ _⟩
  case round =>
    obtain ⟨t, zs, rfl, ht, hzl, HI, hown, hB⟩ := hrel
    by_cases hp : 0 < t.size
    · obtain ⟨k, hk⟩ : ∃ k, k = t.size - 9 := ⟨_, rfl⟩
      have hmx : max (0 : Int) ((t.size : Int) - 9) = (k : Int) := by omega
      have hkt : k ≤ t.size := by omega
      have hk9 : t.size ≤ k + 9 := by omega
      have hkp : k < t.size := by omega
      have hks : k ≤ 4000000 := by omega
      have hI := HI.out.step k (by rw [size_list]; exact hk) (by rw [size_list]; exact hp)
      have hlen := HI.out.2.2.2.2
      have hx := hI.1
      have e1 : (t.extract k t.size).data.toList = t.data.toList.drop k := by rw [Lib.extract_data, List.take_of_length_le (by rw [List.length_drop, size_list]; omega)]
      have e2 : (t.extract 0 k).data.toList = t.data.toList.take k := by rw [Lib.extract_data, List.drop_zero, Nat.sub_zero]
      have HI2 : Hid (DigI s.data.toList (t.extract 0 k).data.toList (zs ++ [dval (t.data.toList.drop k)])) := by
        show DigI _ _ _
        rw [e2]; exact hI.2
      have HA : Hid (Lib.atoi (t.extract k t.size).data.toList = some ((dval (t.data.toList.drop k) : Nat) : Int)) := by
        show _ = _
        rw [e1]
        exact atoi_digs (digs_drop HI.out.1 k) (by intro e; have := congrArg List.length e; rw [List.length_drop, size_list] at this; simp at this; omega)
      have hz1' : (zs ++ [dval (t.data.toList.drop k)]).length = zs.length + 1 := by simp
      have hzl2 : zs.length + 1 ≤ 4000000 := by
        rw [size_list] at hlen; omega
      have HE : Hid ((t.extract k t.size).size ≤ 18) := by show _ ≤ _; rw [← size_list, e1, List.length_drop, size_list]; omega
      have HT : Hid ((t.extract 0 k).size = k) := by show _ = _; rw [← size_list, e2, List.length_take, size_list]; omega
      have HZ := Lib.hid hz1'
      clear hI e1 e2 hlen hk hz1'
      generalize dval (t.data.toList.drop k) = n at *
      go_wp2_with fail
      refine (Tryz.strconv_Atoi _ _ HE.out HA.out _).mono ?_
      rintro e w1 ⟨rfl, tt, rfl⟩
      have hbw := Lib.bytesWorld_below wr 5 tt
      have hown1 := own_next hown hbw
      have hB1 : Below w.heap.size w (Lib.bytesWorld wr 5 tt) := hB.trans (hbw.mono hB.size)
      generalize Lib.bytesWorld wr 5 tt = w1 at *
      clear hown hbw
      go_wp2_with (at_builtin; refine wpL_append _ rfl (.tmp 21) (.tmp 24) _ rfl w.heap.size 105 i0 _ 1 4 Tryz.underlying100 hi0 hz0 hz1 hz2 rfl (by omega) _ zs.length (ints .u32 zs) rfl (hown1.alloc _) (some ⟨w1.heap.size, 0, none⟩) 1 1 [.int .u32 (n : Int)] rfl rfl (Rd.of_new w1 [.int .u32 (n : Int)] 105) (by intro u hu; simp at hu; subst hu; rfl) (by unfold maxLen; omega) (by omega) (by have := hB1.size; simp; omega) ?_; intro v1 w2 hown2 hg1 hat1)
      have hB2 : Below w.heap.size w w2 := below_app (hB1.alloc hB1.size _) hg1 (by have := hB1.size; simp; omega) (hown1.alloc _) (Nat.le_refl _)
      have HO : Hid (w2.ownsRow w.heap.size 105 1 v1 (zs ++ [n]).length (ints .u32 (zs ++ [n]))) := by
        show World.ownsRow _ _ _ _ _ _ _
        rw [HZ.out, ints_append]; exact hown2
      clear hown1 hown2
      go_wp2
      go_roundw
      case rel => exact ⟨_, zs ++ [n], rfl, by rw [HT.out]; exact hks, by rw [HZ.out]; exact hzl2, HI2.out, HO.out, hB2⟩
      case measure => simp [HT.out]; omega
    · have hz0 : t.size = 0 := by omega
      have HV : Hid (val zs = dval s.data.toList) := by
        have e0 : t.data.toList = [] := List.eq_nil_of_length_eq_zero (by rw [size_list]; exact hz0)
        have := HI.out
        rw [e0] at this
        exact this.stop
      have HS := Lib.hid HI.out.2.2.1
      have hz2' := Lib.hid hz0
      obtain ⟨A, c, rfl, hcap⟩ := own_slice hown
      have hrd := Rd.of_own hown
      clear hz0
      go_wp2_with fail
      refine (trim_any A c zs.length zs _ rfl hcap (by omega) hrd).mono ?_
      rintro e w1 ⟨rfl, k, hk, rfl⟩
      have HK := Lib.hid hk
      clear hk
      go_wp2
      go_ret
      refine ⟨hB, _, rfl, ?_⟩
      have e := HK.out.len HS.out
      have e2 := HK.out.eq HS.out
      rw [HV.out] at e e2
      refine ⟨A, c, by rw [← e]; rfl, by rw [← e]; exact Nat.le_trans HK.out.1 hcap, ?_⟩
      rw [e2, ints_take]
      exact hrd.take _
end Go.Proofs.YtpkhgdnkkdhlcaaGreatDoor

namespace Go.Proofs.YtpkhgdnkkdhlcaaGreatDoor
open Go.RowKit Ar

theorem index_47 : ∀ l : List UInt8, (∀ m, cut47 l = (m, none) → Lib.index l [47] = -1) ∧ (∀ m r, cut47 l = (m, some r) → Lib.index l [47] = m.length ∧ l.take m.length = m ∧ l.drop (m.length + 1) = r)
  | [] => ⟨fun m h => rfl, fun m r h => by simp [cut47] at h⟩
  | b :: l => by
    obtain ⟨h1, h2⟩ := index_47 l
    by_cases hb : b = 47
    · subst hb
      refine ⟨fun m h => ?_, fun m r h => ?_⟩
      · simp [cut47] at h
      · simp only [cut47, if_true, Prod.mk.injEq, Option.some.injEq] at h
        obtain ⟨rfl, rfl⟩ := h
        refine ⟨?_, rfl, rfl⟩
        unfold Lib.index
        rw [if_pos (by rfl)]; rfl
    · have hp : ¬ ([47].isPrefixOf (b :: l) = true) := by
        simp [List.isPrefixOf, Ne.symm hb]
      refine ⟨fun m h => ?_, fun m r h => ?_⟩
      · simp only [cut47, if_neg hb, Prod.mk.injEq] at h
        have := h1 (cut47 l).1 (by rw [← h.2])
        unfold Lib.index
        rw [if_neg hp, this]; rfl
      · simp only [cut47, if_neg hb, Prod.mk.injEq] at h
        obtain ⟨e1, e2, e3⟩ := h2 (cut47 l).1 r (by rw [← h.2])
        rw [← h.1]
        refine ⟨?_, by simp [e2], by simpa using e3⟩
        unfold Lib.index
        rw [if_neg hp, e1, if_neg (by simp)]
        simp
theorem cut_47 (l : List UInt8) : Lib.cut l [47] = ((cut47 l).1, (cut47 l).2.getD [], (cut47 l).2.isSome) := by
  obtain ⟨h1, h2⟩ := index_47 l
  unfold Lib.cut
  cases hc : (cut47 l).2 with
  | none =>
    rw [h1 (cut47 l).1 (by rw [← hc]), if_neg (by decide)]
    have := (cut47_eq l).2
    rw [hc, List.append_nil] at this
    rw [← this]; rfl
  | some r =>
    obtain ⟨e1, e2, e3⟩ := h2 (cut47 l).1 r (by rw [← hc])
    rw [e1, if_pos (by omega)]
    simp only [Int.toNat_natCast, e2, List.length_singleton, e3]; rfl
theorem hasPrefix_45 (l : List UInt8) : Lib.hasPrefix l [45] = isNeg l := by
  unfold Lib.hasPrefix isNeg
  cases l with
  | nil => rfl
  | cons b r =>
    show ([45].isPrefixOf (b :: r)) = (some b == some 45)
    rw [Bool.eq_iff_iff]
    simp only [List.isPrefixOf, Bool.and_true, beq_iff_eq, Option.some.injEq]
    exact ⟨fun h => h.symm, fun h => h.symm⟩
theorem trimPrefix_45 (l : List UInt8) : Lib.trimPrefix l [45] = unsign l := by
  unfold Lib.trimPrefix unsign
  rw [hasPrefix_45]
  split <;> simp

/-- The text of an integer. -/
structure IntText (l : List UInt8) : Prop where
  canon : Canon (unsign l)
  sign : isNeg l = true → unsign l ≠ [48]
theorem IntText.no47 {l : List UInt8} (h : IntText l) : 47 ∉ unsign l := digs_no47 h.canon.1
theorem IntText.isText {l : List UInt8} (h : IntText l) : IsText l := by
  have e := cut47_none h.no47
  exact ⟨by rw [e]; exact h.canon, by rw [e]; exact h.sign, fun m hm => by rw [e] at hm; cases hm⟩
theorem mk_size (l : List UInt8) : (⟨l.toArray⟩ : ByteArray).size = l.length := by rw [← size_list]
theorem unsign_len (l : List UInt8) : (unsign l).length ≤ l.length := by unfold unsign; split <;> simp
/-- The library's variables MaxLen and ErrSyntax. -/
def Env (w : World) : Prop := (∃ m : Int, w.cell? ⟨5, 0, none⟩ = some (.int .i64 m)) ∧ (∃ ev : Value, w.cell? ⟨0, 0, none⟩ = some ev ∧ (ev = .nilIface ∨ ∃ te pe, ev = .iface te pe)) ∧ 5 < w.heap.size ∧ 0 < w.heap.size
theorem Env.below {w w' : World} {B : Nat} (h : Env w) (hb : Below B w w') (h1 : 5 < B) (h2 : 0 < B) : Env w' := by
  obtain ⟨⟨m, hm⟩, ⟨ev, hv, he⟩, k1, k2⟩ := h
  exact ⟨⟨m, (hb.cell (p := ⟨5, 0, none⟩) h1).trans hm⟩, ⟨ev, (hb.cell (p := ⟨0, 0, none⟩) h2).trans hv, he⟩, Nat.lt_of_lt_of_le k1 hb.size, Nat.lt_of_lt_of_le k2 hb.size⟩
theorem Env.next {w w' : World} (h : Env w) (hb : Below w.heap.size w w') : Env w' := h.below hb h.2.2.1 h.2.2.2
theorem Env.alloc {w : World} (h : Env w) (o : Obj) : Env (w.alloc o) := h.next ((Below.refl _ _).alloc (Nat.le_refl _) _)
theorem Env.drewN {w : World} (h : Env w) (n : Nat) : Env (w.drewN n) := h
theorem cut_any (s : ByteArray) (w : World) (hs : s.size ≤ 4000000) (h : Env w) :
    Calls Tryz.prog 184 #[.string s, .string ⟨#[47]⟩] w fun e w' => e = .returned (.tuple #[.string ⟨(cut47 s.data.toList).1.toArray⟩, .string ⟨((cut47 s.data.toList).2.getD []).toArray⟩, .bool (cut47 s.data.toList).2.isSome]) ∧ ∃ n, w' = w.drewN n := by
  obtain ⟨⟨m, hm⟩, _⟩ := h
  have := Tryz.strings_Cut s ⟨#[47]⟩ m w (by omega) hm
  rw [show (⟨#[47]⟩ : ByteArray).data.toList = [47] from rfl, cut_47] at this
  exact this

/-- What is known at the end of the reading of an integer. -/
def FinI (w : World) (s : Bool) (A : Option Addr) (l c g n : Nat) (W : World) : Prop := Below w.heap.size w W ∧ W.cell? ⟨w.heap.size, 0, none⟩ = some (.bool s) ∧ W.cell? ⟨w.heap.size, 1, none⟩ = some (.slice A l c) ∧ W.cell? ⟨w.heap.size, 2, none⟩ = some (.slice (some ⟨g, 0, none⟩) 1 1) ∧
  IsN W W.heap.size .u32 (.slice A l c) n ∧ IsN W W.heap.size .u32 (.slice (some ⟨g, 0, none⟩) 1 1) 1
theorem finish_int {w w3 : World} {s : Bool} {A : Option Addr} {l c n : Nat} {T T1 : TypeId} {o : Obj} (hb0 : Below w.heap.size w w3) (k3 : Bk w3 w.heap.size T #[Value.bool false, .slice none 0 0, .slice none 0 0]) (hN : IsN w3 w3.heap.size .u32 (.slice A l c) n) :
    FinI w s A l c w3.heap.size n (((((w3.setCell ⟨w.heap.size, 0, none⟩ (.bool s)).setCell ⟨w.heap.size, 1, none⟩ (.slice A l c)).setCell ⟨w.heap.size, 2, none⟩ (.slice (some ⟨w3.heap.size, 0, none⟩) 1 1)).alloc (.cells #[.int .u32 1] T1)).alloc o) := by
  have h1 := hN.set3 k3 (.bool s) (.slice A l c) (.slice (some ⟨w3.heap.size, 0, none⟩) 1 1)
  have hs := set3_size w3 w.heap.size (.bool s) (.slice A l c) (.slice (some ⟨w3.heap.size, 0, none⟩) 1 1)
  have hk := set3_bk (x := .bool s) (y := .slice A l c) (z := .slice (some ⟨w3.heap.size, 0, none⟩) 1 1) k3
  have hb := set3_below (x := .bool s) (y := .slice A l c) (z := .slice (some ⟨w3.heap.size, 0, none⟩) 1 1) hb0 (Nat.le_refl _)
  show FinI w s A l c w3.heap.size n (((set3 w3 w.heap.size (.bool s) (.slice A l c) (.slice (some ⟨w3.heap.size, 0, none⟩) 1 1)).alloc (.cells #[.int .u32 1] T1)).alloc o)
  generalize set3 w3 w.heap.size (.bool s) (.slice A l c) (.slice (some ⟨w3.heap.size, 0, none⟩) 1 1) = W at *
  rw [← hs] at h1 ⊢
  rw [← hs] at hk
  have hD := IsN.new_one W T1
  have hk2 := (hk.alloc (.cells #[.int .u32 1] T1)).alloc o
  refine ⟨(hb.alloc hb.size _).alloc (by have := hb.size; simp; omega) _, hk2.cell 0, hk2.cell 1, hk2.cell 2, ((h1.alloc _).alloc _), ?_⟩
  exact (show IsN (W.alloc (.cells #[.int .u32 1] T1)) (W.alloc (.cells #[.int .u32 1] T1)).heap.size .u32 _ 1 from by simpa using hD).alloc o
theorem bodyPost_named {P : Program} {fn : Func} {R : Ending → World → Prop} {e : Exit} {a : Act} {w : World} (F : World → Prop) (hF : F w) (h : ∀ W, F W → bodyPost P fn R e a W) : bodyPost P fn R e a w := h w hF

set_option maxRecDepth 100000 in
set_option maxHeartbeats 1600000 in
theorem readlong_int (s : ByteArray) (w : World) (hs : s.size ≤ 4000000) (hT : IntText s.data.toList) (he : Env w) :
    Calls Tryz.prog 186 #[.string s] w fun e w' => Below w.heap.size w w' ∧ ∃ N D, e = .returned (.tuple #[.agg #[.bool (isNeg s.data.toList), N, D], .bool true]) ∧ IsN w' w'.heap.size .u32 N (dval (unsign s.data.toList)) ∧ IsN w' w'.heap.size .u32 D 1 := by
  have c1 := fun W => Tryz.strings_CutPrefix s ⟨#[45]⟩ W
  have e45 : (⟨#[45]⟩ : ByteArray).data.toList = [45] := rfl
  rw [e45, trimPrefix_45, hasPrefix_45] at c1
  have hl := unsign_len s.data.toList
  rw [size_list] at hl
  have hcan := hT.canon
  have HS := Lib.hid hT.sign
  have HC := Lib.hid (cut47_none hT.no47)
  clear hT e45
  generalize isNeg s.data.toList = g at *
  obtain ⟨r, hr⟩ : ∃ r : ByteArray, r = ⟨(unsign s.data.toList).toArray⟩ := ⟨_, rfl⟩
  have hu : r.data.toList = unsign s.data.toList := by rw [hr]
  rw [← hr] at c1
  have hus : r.size ≤ 4000000 := by rw [hr, mk_size]; omega
  have HU := Lib.hid hu
  clear hu hr
  generalize unsign s.data.toList = u at *
  go_enter Tryz.func186, Tryz.ntmps186
  go_wp2_with fail
  refine (c1 _).mono ?_
  rintro e w1 ⟨rfl, rfl⟩
  go_wp2_with fail
  refine (cut_any _ _ hus (he.alloc _)).mono ?_
  rintro e w1 ⟨rfl, n1, rfl⟩
  rw [HU.out, HC.out]
  obtain ⟨q, hq⟩ : ∃ q : ByteArray, q = ⟨u.toArray⟩ := ⟨_, rfl⟩
  rw [← hq]
  have hqu : q.data.toList = u := by rw [hq]
  have hqs : q.size ≤ 4000000 := by rw [hq, mk_size, ← HU.out, size_list]; exact hus
  have HQ := Lib.hid hqu
  have H0 : Hid (g = true → (q.toList == [48]) = false) := fun e => by
    rw [bs_toList, HQ.out, beq_eq_false_iff_ne]; exact HS.out e
  clear hq hqu
  go_wp2_with fail
  refine (plain_any q _ hqs).mono ?_
  rintro e w2 ⟨rfl, b, rfl, hb⟩
  obtain rfl : b = true := hb.2 (by rw [HQ.out]; exact hcan)
  clear hb
  have HCd := Lib.hid hcan.1
  clear hcan
  cases g
  · have h0 := H0.out
    clear h0
    go_wp2_with fail
    refine (digits_any q _ hqs (by rw [HQ.out]; exact HCd.out)).mono ?_
    rintro e w3 ⟨hb3, N, rfl, hN⟩
    rw [HQ.out] at hN
    obtain ⟨A, l, c, rfl⟩ := hN.form
    have k0 := (Bk.new w 102 #[Value.bool false, .slice none 0 0, .slice none 0 0]).drewN n1
    have k3 := k0.below hb3 k0.lt
    have hlt := Nat.lt_of_lt_of_le k0.lt hb3.size
    have d0 := k3.cell 0
    have d1 := k3.cell 1
    have d2 := k3.cell 2
    have f0 := k3.frozen 0
    have f1 := k3.frozen 1
    have f2 := k3.frozen 2
    simp only [List.getElem?_toArray, List.getElem?_cons_zero, List.getElem?_cons_succ] at d0 d1 d2
    have hb0 : Below w.heap.size w w3 := (below_drewN (below_alloc w _) n1).trans (hb3.mono (by show _ ≤ (w.alloc _).heap.size; simp))
    clear k0
    go_wp2
    refine bodyPost_named (FinI w false A l c w3.heap.size (dval u)) (finish_int hb0 k3 hN) ?_
    generalize w3.heap.size = g3
    rintro W ⟨hB, e0, e1, e2, hN', hD'⟩
    refine bodyPost_ret (v := .tuple #[.agg #[.bool false, .slice A l c, .slice (some ⟨g3, 0, none⟩) 1 1], .bool true]) (by simp [results, Tryz.results186, go_sem, e0, e1, e2]) rfl ?_
    exact ⟨hB, _, _, rfl, hN', hD'⟩
  · have h0 := H0.out
    have h1 := h0 rfl
    clear h0
    go_wp2_with fail
    refine (digits_any q _ hqs (by rw [HQ.out]; exact HCd.out)).mono ?_
    rintro e w3 ⟨hb3, N, rfl, hN⟩
    rw [HQ.out] at hN
    obtain ⟨A, l, c, rfl⟩ := hN.form
    have k0 := (Bk.new w 102 #[Value.bool false, .slice none 0 0, .slice none 0 0]).drewN n1
    have k3 := k0.below hb3 k0.lt
    have hlt := Nat.lt_of_lt_of_le k0.lt hb3.size
    have d0 := k3.cell 0
    have d1 := k3.cell 1
    have d2 := k3.cell 2
    have f0 := k3.frozen 0
    have f1 := k3.frozen 1
    have f2 := k3.frozen 2
    simp only [List.getElem?_toArray, List.getElem?_cons_zero, List.getElem?_cons_succ] at d0 d1 d2
    have hb0 : Below w.heap.size w w3 := (below_drewN (below_alloc w _) n1).trans (hb3.mono (by show _ ≤ (w.alloc _).heap.size; simp))
    clear k0
    go_wp2
    refine bodyPost_named (FinI w true A l c w3.heap.size (dval u)) (finish_int hb0 k3 hN) ?_
    generalize w3.heap.size = g3
    rintro W ⟨hB, e0, e1, e2, hN', hD'⟩
    refine bodyPost_ret (v := .tuple #[.agg #[.bool true, .slice A l c, .slice (some ⟨g3, 0, none⟩) 1 1], .bool true]) (by simp [results, Tryz.results186, go_sem, e0, e1, e2]) rfl ?_
    exact ⟨hB, _, _, rfl, hN', hD'⟩
end Go.Proofs.YtpkhgdnkkdhlcaaGreatDoor

