/-
  Walks: package codec: the checksum; the reference's.
-/
import Derived.Test.YtmoenbdooilceaaDoorSumA
namespace Go.Proofs.YtmoenbdooilceaaDoor
open Go.RowKit By

/-- The table in memory. -/
def tbl : List Nat := (List.range 256).map tb
theorem tbl_at {i : Nat} (h : i < 256) : tbl.getD i 0 = tb i := by simp [tbl, List.getD_eq_getElem?_getD, List.getElem?_range h]
theorem tbl_len : tbl.length = 256 := by simp [tbl]
theorem shr8 (c : BitVec 32) : ((c.toNat : Nat) : Int) / (256 : Int) = (((c >>> 8).toNat : Nat) : Int) := by
  rw [BitVec.toNat_ushiftRight, Nat.shiftRight_eq_div_pow]; rfl
theorem not_u32 (c : BitVec 32) : bits .xor .u32 IntKind.u32.max ((c.toNat : Nat) : Int) = (((~~~c).toNat : Nat) : Int) := by
  have := xor_u32 (BitVec.allOnes 32) c
  rw [BitVec.allOnes_xor] at this
  exact this

set_option maxRecDepth 100000 in
set_option maxHeartbeats 1600000 in
theorem checksum_any (A : Option Addr) (cc : Nat) (l : List Nat) (w : World) (hl : Bytes l) (hm : l.length ≤ 100000000) (h : Rd w w.heap.size A (ints .u8 l)) :
    Calls Tryd.prog 11 #[.slice A l.length cc] w fun e w' => Below w.heap.size w w' ∧ e = .returned (cv (Crc.sumB l)) := by
  have hsz : (Tryd.prog.info? 38).map (·.size) = some 256 := by kernel_rfl
  have hsz1 : (ints .u32 tbl).toArray.size = 256 := by simp [ints_length, tbl_len]
  have hz : Tryd.zeroCells38 = (ints .u32 (List.replicate 256 0)).toArray := by kernel_rfl
  have hall : (ints .u32 tbl).toArray.all (·.oneCell') = true := by
    rw [Array.all_eq_true_iff_forall_mem]
    intro v hv
    exact ints_one _ _ v (by simpa using hv)
  have HI : Hid ((Tryd.prog.info? 38).map (·.size) = some (ints .u32 tbl).toArray.size) := by show _ = _; rw [hsz1]; exact hsz
  have HZ : Hid (Tryd.zeroCells38.size = (ints .u32 tbl).toArray.size) := by show _ = _; rw [hz, hsz1]; simp [ints_length]
  have HAL := Lib.hid hall
  clear hsz hsz1 hall hz
  go_enter Tryd.func11, Tryd.ntmps11
  go_wp2_with fail
  refine (table_any _).mono ?_
  rintro e w1 ⟨hb1, rfl⟩
  have HT : Hid ((ints .u32 ((List.range 256).map tb)).toArray = (ints .u32 tbl).toArray) := rfl
  rw [HT.out]
  generalize hcs : (ints .u32 tbl).toArray = cs at HI HZ HAL ⊢
  have HCS := Lib.hid hcs
  clear hcs HT
  have hk0 := Bk.new w1 38 Tryd.zeroCells38
  have hk1 : Hid (Bk ((w1.alloc (.cells Tryd.zeroCells38 38)).setRow w1.heap.size cs) w1.heap.size 38 cs) := setRow_heap _ _ _ _ _ (0, 0) hk0
  have hB1 : Below w.heap.size w ((w1.alloc (.cells Tryd.zeroCells38 38)).setRow w1.heap.size cs) := below_of_grown (hb1.alloc hb1.size _) (grown_setRow _ w1.heap.size _) (by have := hb1.size; simp; omega) hb1.size
  go_wp2_with (refine wpList_store_row rfl 38 (.tmp 3) (.tmp 7) rfl w1.heap.size cs rfl rfl 38 _ hk0 HI.out HZ.out HAL.out ?_)
  refine wp_named (fun W => Bk W w1.heap.size 38 cs ∧ Below w.heap.size w W) ⟨hk1.out, hB1⟩ ?_
  rintro W ⟨hk, hB⟩
  clear hk0 hk1 hB1 HI HZ HAL
  have hA := h.below hB
  go_loop [4, 10] (fun x i => ∃ j : Nat, j ≤ l.length ∧ i = .int .i64 j ∧ x = cv (Crc.cs Crc.ones (l.take j))) (fun _ i => l.length - (intOf i).toNat)
  case atStart => exact ⟨0, Nat.zero_le _, rfl, rfl⟩
  case round =>
    obtain ⟨j, hj, rfl, rfl⟩ := hrel
    by_cases hlt : j < l.length
    · obtain ⟨ad, rfl, hab, hcell⟩ := hA.int (j := j) hlt
      have hx := hl.at_ j
      have HN : Hid (Crc.cs Crc.ones (l.take (j + 1)) = Crc.by1 (Crc.cs Crc.ones (l.take j)) (l.getD j 0)) := by
        show _ = _
        rw [List.take_succ_eq_append_getElem hlt, Crc.cs_snoc, List.getD_eq_getElem?_getD, List.getElem?_eq_getElem hlt]; rfl
      generalize l.getD j 0 = x at *
      generalize Crc.cs Crc.ones (l.take j) = c at *
      have hm8 : c.toNat % 256 < 256 := Nat.mod_lt _ (by decide)
      have hI := Nat.xor_lt_two_pow (n := 8) hm8 hx
      have x1 : bits .xor .u8 (((c.toNat : Nat) : Int) % (256 : Int)) (x : Int) = (((c.toNat % 256) ^^^ x : Nat) : Int) := by
        rw [← xor_u8 hm8 hx, Int.natCast_emod]; rfl
      have x2 := shr8 c
      have x3 := xor_u32 (Crc.F8 (BitVec.ofNat 32 ((c.toNat % 256) ^^^ x))) (c >>> 8)
      rw [← Crc.by1_table c hx] at x3
      have hc0 := hk.cell ((c.toNat % 256) ^^^ x)
      rw [← HCS.out, ints_getD .u32 tbl (by rw [tbl_len]; exact hI), tbl_at hI] at hc0
      unfold tb at hc0
      generalize Crc.by1 c x = c2 at *
      unfold cv
      have hcb := c.isLt
      generalize (c >>> 8).toNat = sh at *
      generalize hY : (c.toNat % 256) ^^^ x = y at *
      generalize (Crc.F8 (BitVec.ofNat 32 y)).toNat = f at *
      have HY := Lib.hid hY
      clear hY
      generalize c.toNat = X at *
      clear hm8
      go_wp2
      go_round
      case rel =>
        refine ⟨j + 1, by omega, by go_num, ?_⟩
        rw [HN.out]
      case measure => simp [intOf]; omega
    · obtain rfl : l.length = j := by omega
      have HE : Hid (Crc.cs Crc.ones (l.take l.length) = Crc.cs Crc.ones l) := by show _ = _; rw [List.take_of_length_le (Nat.le_refl _)]
      rw [HE.out]
      have HV : Hid (cv (Crc.sumB l) = .int .u32 (((~~~ Crc.cs Crc.ones l).toNat : Nat) : Int)) := rfl
      have x3 := not_u32 (Crc.cs Crc.ones l)
      unfold cv
      generalize (~~~ Crc.cs Crc.ones l).toNat = y at *
      generalize (Crc.cs Crc.ones l).toNat = X at *
      go_wp2
      go_ret
      exact ⟨hB, by rw [HV.out]; rfl⟩

/-- A bit of a byte, in the walk's words. -/
theorem bit_u32 {x i : Nat} (hx : x < 256) : bits .and .u32 ((x / 2 ^ i : Nat) : Int) 1 = ((x / 2 ^ i % 2 : Nat) : Int) := by
  have h := and1_u32 (BitVec.ofNat 32 (x / 2 ^ i))
  have hl : x / 2 ^ i < 2 ^ 32 := Nat.lt_of_le_of_lt (Nat.div_le_self _ _) (by omega)
  rw [BitVec.toNat_ofNat, Nat.mod_eq_of_lt hl] at h
  exact h
theorem bit_toNat {x i : Nat} : (Crc.bit x i).toNat = x / 2 ^ i % 2 := by unfold Crc.bit; rw [BitVec.toNat_ofNat]; omega
theorem F_split (c : BitVec 32) : Crc.F c = (c >>> 1) ^^^ (if c.toNat % 2 = 1 then Crc.P else 0#32) := by
  have hb : c.getLsbD 0 = decide (c.toNat % 2 = 1) := by rw [BitVec.getLsbD, Nat.testBit_zero]
  unfold Crc.F; rw [hb]; simp
theorem shr1 (c : BitVec 32) : ((c.toNat : Nat) : Int) / (2 : Int) = (((c >>> 1).toNat : Nat) : Int) := by
  rw [BitVec.toNat_ushiftRight, Nat.shiftRight_eq_div_pow]; rfl
theorem shr_xor_bit (c : BitVec 32) (x i : Nat) : (c ^^^ Crc.bit x i) >>> 1 = c >>> 1 := by
  rw [BitVec.ushiftRight_xor_distrib]
  have : Crc.bit x i >>> 1 = 0#32 := by
    apply BitVec.eq_of_toNat_eq
    rw [BitVec.toNat_ushiftRight, bit_toNat, Nat.shiftRight_eq_div_pow]
    simp
  rw [this, BitVec.xor_zero]

set_option maxRecDepth 100000 in
set_option maxHeartbeats 1600000 in
theorem rchecksum_any (A : Option Addr) (cc : Nat) (l : List Nat) (w : World) (hl : Bytes l) (hm : l.length ≤ 100000000) (h : Rd w w.heap.size A (ints .u8 l)) :
    Calls Tryd.prog 12 #[.slice A l.length cc] w fun e w' => w = w' ∧ e = .returned (cv (Crc.sumB l)) := by
  go_enter Tryd.func12, Tryd.ntmps12
  go_wp2
  go_loop [3, 4] (fun x i => ∃ j : Nat, j ≤ 8 * l.length ∧ i = .int .i64 j ∧ x = cv (Crc.st l j)) (fun _ i => 8 * l.length - (intOf i).toNat)
  case atStart => exact ⟨0, Nat.zero_le _, rfl, rfl⟩
  case round =>
    obtain ⟨j, hj, rfl, rfl⟩ := hrel
    by_cases hlt : j < 8 * l.length
    · obtain ⟨ad, rfl, hab, hcell⟩ := h.int (j := j / 8) (by omega)
      have hx := hl.at_ (j / 8)
      have HN : Hid (Crc.st l (j + 1) = Crc.F (Crc.st l j ^^^ Crc.bit (l.getD (j / 8) 0) (j % 8))) := rfl
      generalize l.getD (j / 8) 0 = x at *
      generalize Crc.st l j = c at *
      have x1 := bit_u32 (i := j % 8) hx
      have x2 := xor_u32 c (Crc.bit x (j % 8))
      rw [bit_toNat] at x2
      have x3 := and1_u32 (c ^^^ Crc.bit x (j % 8))
      have x4 := shr1 c
      have hsp := F_split (c ^^^ Crc.bit x (j % 8))
      rw [shr_xor_bit] at hsp
      have y1 : IntKind.i64.wrap ((j : Int) / 8) = (j : Int) / 8 := IntWalk.i64_in _ (by omega)
      have y2 : ((j : Int) / 8).toNat = j / 8 := by omega
      have y3 : 0 ≤ (j : Int) / 8 := by omega
      have y4 : (j : Int) / 8 < l.length := by omega
      obtain ⟨t, ht⟩ : ∃ t, t = j % 8 := ⟨_, rfl⟩
      rw [← ht] at x1 x2 x3 HN hsp
      have y5 : (j : Int).tmod 8 = (t : Int) := by rw [Int.tmod_eq_emod_of_nonneg (by omega)]; omega
      have y6 : (t : Int) ≤ 8 := by omega
      have y7 : 0 ≤ (t : Int) := by omega
      have y8 : ((x / 2 ^ t : Nat) : Int) = (x : Int) / 2 ^ t := by simp
      have y9 : ((x / 2 ^ t : Nat) : Int) % 4294967296 = ((x / 2 ^ t : Nat) : Int) := Int.emod_eq_of_lt (Int.natCast_nonneg _) (by have : x / 2 ^ t < 256 := Nat.lt_of_le_of_lt (Nat.div_le_self x (2 ^ t)) hx; generalize x / 2 ^ t = v at *; omega)
      rw [← y9, y8] at x1
      have HT := Lib.hid ht
      clear ht y8 y9
      generalize x / 2 ^ t % 2 = bb at *
      have HG : Hid (cv (Crc.st l (j + 1)) = .int .u32 (((c >>> 1) ^^^ (if (c ^^^ Crc.bit x t).toNat % 2 = 1 then Crc.P else 0#32)).toNat : Nat)) := by show _ = _; rw [HN.out, hsp]; rfl
      clear HN hsp
      unfold cv
      generalize hc2 : c ^^^ Crc.bit x t = c2 at *
      have x5 := xor_u32 (c >>> 1) Crc.P
      generalize hsh : (c >>> 1).toNat = sh at *
      generalize c2.toNat = C at *
      obtain ⟨m, hmm⟩ : ∃ m, m = C % 2 := ⟨_, rfl⟩
      rw [← hmm] at x3 HG
      by_cases hodd : m = 1
      · have z1 : (((C : Nat) : Int) % 2 == 1) = true := by rw [beq_iff_eq]; omega
        rw [if_pos hodd] at HG
        clear hsh
        generalize ((c >>> 1) ^^^ Crc.P).toNat = Z at *
        have HZZ : bits .xor .u32 (sh : Int) 3988292384 = (Z : Int) := x5
        clear x5
        have HG2 : Hid (Z = (Crc.st l (j + 1)).toNat) := by have e := HG.out; unfold cv at e; injection e with _ e; show _ = _; omega
        clear HG
        go_wp2
        go_round
        case rel =>
          refine ⟨j + 1, by omega, by go_num, ?_⟩
          rw [HG2.out]
        case measure => simp [intOf]; omega
      · have z1 : (((C : Nat) : Int) % 2 == 1) = false := by rw [beq_eq_false_iff_ne]; omega
        rw [if_neg hodd, BitVec.xor_zero] at HG
        rw [hsh] at HG
        have HG2 : Hid (sh = (Crc.st l (j + 1)).toNat) := by have e := HG.out; unfold cv at e; injection e with _ e; show _ = _; omega
        clear HG hsh
        go_wp2
        go_round
        case rel =>
          refine ⟨j + 1, by omega, by go_num, ?_⟩
          rw [HG2.out]
        case measure => simp [intOf]; omega
    · obtain rfl : j = 8 * l.length := by omega
      have HV : Hid (cv (Crc.sumB l) = .int .u32 (((~~~ Crc.st l (8 * l.length)).toNat : Nat) : Int)) := by show _ = _; rw [Crc.sumB_st hl]; rfl
      have x3 := not_u32 (Crc.st l (8 * l.length))
      unfold cv
      generalize (~~~ Crc.st l (8 * l.length)).toNat = y at *
      generalize (Crc.st l (8 * l.length)).toNat = X at *
      go_wp2
      go_ret
      exact ⟨rfl, by rw [HV.out]; rfl⟩
end Go.Proofs.YtmoenbdooilceaaDoor
