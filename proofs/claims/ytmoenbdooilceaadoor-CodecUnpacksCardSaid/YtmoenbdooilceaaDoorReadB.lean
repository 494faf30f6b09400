/-
  Walks: texts of numbers: Digits.
-/
import Derived.Test.YtmoenbdooilceaaDoorReadA
import Derived.Test.YtmoenbdooilceaaDoorShelf
import Derived.Test.YtmoenbdooilceaaDoorWordsC
import Derived.Lib.AtoiErrMem
namespace Go.Proofs.YtmoenbdooilceaaDoor
open Go.RowKit Ar

theorem Tryd.u32_row : (Tryd.prog.info? 24).map (fun i => (i.zero, i.size, i.bytes)) = some (some (.int .u32 0), 1, 4) := by kernel_rfl

theorem atoi_digs {l : List UInt8} (h : Digs l) (hn : l ≠ []) : Lib.atoi l = some ((dval l : Nat) : Int) := by
  cases l with
  | nil => exact absurd rfl hn
  | cons b r =>
    have h1 := h b (by simp)
    show (if (b == 45) = true then (Lib.decNat r).map fun (m : Nat) => -(m : Int) else if (b == 43) = true then (Lib.decNat r).map fun (m : Nat) => (m : Int) else (Lib.decNat (b :: r)).map fun (m : Nat) => (m : Int)) = _
    rw [if_neg (by intro e; have : b = 45 := by simpa using e
                   subst this; simp at h1), if_neg (by intro e; have : b = 43 := by simpa using e
                                                       subst this; simp at h1)]
    unfold Lib.decNat
    rw [if_neg (by simp), show Lib.decFrom 0 (b :: r) = some (dval (b :: r)) from decFrom_dval h]; rfl
theorem digs_take {l : List UInt8} (h : Digs l) (k : Nat) : Digs (l.take k) := fun b hb => h b (List.mem_of_mem_take hb)
theorem digs_drop {l : List UInt8} (h : Digs l) (k : Nat) : Digs (l.drop k) := fun b hb => h b (List.mem_of_mem_drop hb)
theorem dval_cut {l : List UInt8} (h : Digs l) (k : Nat) (hk : k = l.length - 9) : dval l = B * dval (l.take k) + dval (l.drop k) := by
  conv => lhs; rw [← List.take_append_drop k l]
  rw [dval_append (digs_take h k) (digs_drop h k)]
  rcases Nat.eq_zero_or_pos k with h0 | h0
  · subst h0; simp [dval_nil]
  · rw [List.length_drop, show l.length - k = 9 by omega, Nat.mul_comm, B_eq]
/-- What is left and what has been read. -/
def DigI (l t : List UInt8) (zs : List Nat) : Prop := Digs t ∧ t.length ≤ l.length ∧ Small zs ∧ val zs + B ^ zs.length * dval t = dval l ∧ zs.length + t.length ≤ l.length
theorem DigI.start {l : List UInt8} (h : Digs l) : DigI l l [] := ⟨h, Nat.le_refl _, Small.nil, by simp [val], by simp⟩
theorem DigI.step {l t : List UInt8} {zs : List Nat} (h : DigI l t zs) (k : Nat) (hk : k = t.length - 9) (h0 : 0 < t.length) : dval (t.drop k) < 1000000000 ∧ DigI l (t.take k) (zs ++ [dval (t.drop k)]) := by
  obtain ⟨h1, h2, h3, h4, h5⟩ := h
  have hlt : dval (t.drop k) < B := by
    have := dval_lt (digs_drop h1 k)
    refine Nat.lt_of_lt_of_le this ?_
    rw [B_eq, show 1000000000 = 10 ^ 9 from rfl]
    exact Nat.pow_le_pow_right (by decide) (by rw [List.length_drop]; omega)
  refine ⟨hlt, digs_take h1 k, by rw [List.length_take]; omega, h3.append (Small.cons hlt Small.nil), ?_, by simp only [List.length_append, List.length_take, List.length_singleton]; omega⟩
  rw [val_snoc, List.length_append, List.length_singleton, Nat.pow_succ, ← h4, dval_cut h1 k hk, Nat.mul_add]
  rw [Nat.mul_assoc]; omega
theorem DigI.stop {l : List UInt8} {zs : List Nat} (h : DigI l [] zs) : val zs = dval l := by
  have := h.2.2.2.1
  rw [dval_nil] at this; omega

set_option maxHeartbeats 1600000 in
theorem digits_any (s : ByteArray) (w : World) (hs : s.size ≤ 4000000) (hd : Digs s.data.toList) :
    Calls Tryd.prog 97 #[.string s] w fun e w' => Below w.heap.size w w' ∧ ∃ v, e = .returned v ∧ IsN w' w'.heap.size .u32 v (dval s.data.toList) := by
  obtain ⟨i0, hi0, hz0, hz1, hz2⟩ := info_parts Tryd.u32_row
  have HD := Lib.hid (DigI.start hd)
  have hl0 : s.data.toList.length ≤ 4000000 := by rw [size_list]; exact hs
  clear hd
  go_enter Tryd.func97, Tryd.ntmps97
  go_wp2
  go_loopw [0, 3] (fun x v wr => ∃ (t : ByteArray) (zs : List Nat), x = .string t ∧ t.size ≤ 4000000 ∧ zs.length ≤ 4000000 ∧ Hid (DigI s.data.toList t.data.toList zs) ∧ wr.ownsRow w.heap.size 24 1 v zs.length (ints .u32 zs) ∧ Below w.heap.size w wr) (fun x _ _ => (match x with | .string t => t.size | _ => 0))
  case atStart => exact ⟨s, [], rfl, hs, by simp, HD.out, World.ownsRow_nil _ _ _ _, Below.refl _ _⟩
  case round =>
    obtain ⟨t, zs, rfl, ht, hzl, HI, hown, hB⟩ := hrel
    by_cases hp : 0 < t.size
    · obtain ⟨k, hk⟩ : ∃ k, k = t.size - 9 := ⟨_, rfl⟩
      have hmx : max (0 : Int) ((t.size : Int) - 9) = (k : Int) := by omega
      have hkt : k ≤ t.size := by omega
      have hk9 : t.size ≤ k + 9 := by omega
      have hkp : k < t.size := by omega
      have hks : k ≤ 4000000 := by omega
      have hI := HI.out.step k (by rw [size_list]; exact hk) (by rw [size_list]; exact hp)
      have hlen := HI.out.2.2.2.2
      have hx := hI.1
      have e1 : (t.extract k t.size).data.toList = t.data.toList.drop k := by rw [Lib.extract_data, List.take_of_length_le (by rw [List.length_drop, size_list]; omega)]
      have e2 : (t.extract 0 k).data.toList = t.data.toList.take k := by rw [Lib.extract_data, List.drop_zero, Nat.sub_zero]
      have HI2 : Hid (DigI s.data.toList (t.extract 0 k).data.toList (zs ++ [dval (t.data.toList.drop k)])) := by
        show DigI _ _ _
        rw [e2]; exact hI.2
      have HA : Hid (Lib.atoi (t.extract k t.size).data.toList = some ((dval (t.data.toList.drop k) : Nat) : Int)) := by
        show _ = _
        rw [e1]
        exact atoi_digs (digs_drop HI.out.1 k) (by intro e; have := congrArg List.length e; rw [List.length_drop, size_list] at this; simp at this; omega)
      have hz1' : (zs ++ [dval (t.data.toList.drop k)]).length = zs.length + 1 := by simp
      have hzl2 : zs.length + 1 ≤ 4000000 := by
        rw [size_list] at hlen; omega
      have HE : Hid ((t.extract k t.size).size ≤ 18) := by show _ ≤ _; rw [← size_list, e1, List.length_drop, size_list]; omega
      have HT : Hid ((t.extract 0 k).size = k) := by show _ = _; rw [← size_list, e2, List.length_take, size_list]; omega
      have HZ := Lib.hid hz1'
      clear hI e1 e2 hlen hk hz1'
      generalize dval (t.data.toList.drop k) = n at *
      go_wp2_with fail
      refine (Tryd.strconv_Atoi _ _ HE.out HA.out _).mono ?_
      rintro e w1 ⟨rfl, tt, rfl⟩
      have hbw := Lib.bytesWorld_below wr 5 tt
      have hown1 := own_next hown hbw
      have hB1 : Below w.heap.size w (Lib.bytesWorld wr 5 tt) := hB.trans (hbw.mono hB.size)
      generalize Lib.bytesWorld wr 5 tt = w1 at *
      clear hown hbw
      go_wp2_with (at_builtin; refine wpL_append _ rfl (.tmp 21) (.tmp 24) _ rfl w.heap.size 24 i0 _ 1 4 Tryd.underlying96 hi0 hz0 hz1 hz2 rfl (by omega) _ zs.length (ints .u32 zs) rfl (hown1.alloc _) (some ⟨w1.heap.size, 0, none⟩) 1 1 [.int .u32 (n : Int)] rfl rfl (Rd.of_new w1 [.int .u32 (n : Int)] 24) (by intro u hu; simp at hu; subst hu; rfl) (by unfold maxLen; omega) (by omega) (by have := hB1.size; simp; omega) ?_; intro v1 w2 hown2 hg1 hat1)
      have hB2 : Below w.heap.size w w2 := below_app (hB1.alloc hB1.size _) hg1 (by have := hB1.size; simp; omega) (hown1.alloc _) (Nat.le_refl _)
      have HO : Hid (w2.ownsRow w.heap.size 24 1 v1 (zs ++ [n]).length (ints .u32 (zs ++ [n]))) := by
        show World.ownsRow _ _ _ _ _ _ _
        rw [HZ.out, ints_append]; exact hown2
      clear hown1 hown2
      go_wp2
      go_roundw
      case rel => exact ⟨_, zs ++ [n], rfl, by rw [HT.out]; exact hks, by rw [HZ.out]; exact hzl2, HI2.out, HO.out, hB2⟩
      case measure => simp [HT.out]; omega
    · have hz0 : t.size = 0 := by omega
      have HV : Hid (val zs = dval s.data.toList) := by
        have e0 : t.data.toList = [] := List.eq_nil_of_length_eq_zero (by rw [size_list]; exact hz0)
        have := HI.out
        rw [e0] at this
        exact this.stop
      have HS := Lib.hid HI.out.2.2.1
      have hz2' := Lib.hid hz0
      obtain ⟨A, c, rfl, hcap⟩ := own_slice hown
      have hrd := Rd.of_own hown
      clear hz0
      go_wp2_with fail
      refine (trim_any A c zs.length zs _ rfl hcap (by omega) hrd).mono ?_
      rintro e w1 ⟨rfl, k, hk, rfl⟩
      have HK := Lib.hid hk
      clear hk
      go_wp2
      go_ret
      refine ⟨hB, _, rfl, ?_⟩
      have e := HK.out.len HS.out
      have e2 := HK.out.eq HS.out
      rw [HV.out] at e e2
      refine ⟨A, c, by rw [← e]; rfl, by rw [← e]; exact Nat.le_trans HK.out.1 hcap, ?_⟩
      rw [e2, ints_take]
      exact hrd.take _
end Go.Proofs.YtmoenbdooilceaaDoor
