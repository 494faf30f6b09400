/-
  Walks: package codec: the table of the checksum.
-/
import Derived.Test.YtmoenbdooilceaaDoorCodH
import Derived.Test.YtmoenbdooilceaaDoorCrc
import Derived.Laws.Tables
namespace Go.Proofs.YtmoenbdooilceaaDoor
open Go.RowKit By

/-- The state of the checksum as a value. -/
def cv (c : BitVec 32) : Value := .int .u32 ((c.toNat : Nat) : Int)
theorem xor_u32 (a b : BitVec 32) : bits .xor .u32 ((a.toNat : Nat) : Int) ((b.toNat : Nat) : Int) = (((a ^^^ b).toNat : Nat) : Int) := by
  show IntKind.u32.wrap ((BitVec.ofInt 32 ((a.toNat : Nat) : Int) ^^^ BitVec.ofInt 32 ((b.toNat : Nat) : Int)).toNat : Int) = _
  rw [BitVec.ofInt_natCast, BitVec.ofInt_natCast, BitVec.ofNat_toNat, BitVec.ofNat_toNat, BitVec.setWidth_eq, BitVec.setWidth_eq]
  exact wrap_u32 (BitVec.isLt _)
theorem xor_u8 {a b : Nat} (ha : a < 256) (hb : b < 256) : bits .xor .u8 (a : Int) (b : Int) = ((a ^^^ b : Nat) : Int) := by
  show IntKind.u8.wrap ((BitVec.ofInt 8 (a : Int) ^^^ BitVec.ofInt 8 (b : Int)).toNat : Int) = _
  rw [BitVec.ofInt_natCast, BitVec.ofInt_natCast, BitVec.toNat_xor, BitVec.toNat_ofNat, BitVec.toNat_ofNat, Nat.mod_eq_of_lt (show a < 2 ^ 8 from ha), Nat.mod_eq_of_lt (show b < 2 ^ 8 from hb)]
  exact wrap_u8 (Nat.xor_lt_two_pow (n := 8) ha hb)
theorem and1_u32 (a : BitVec 32) : bits .and .u32 ((a.toNat : Nat) : Int) 1 = ((a.toNat % 2 : Nat) : Int) := by
  show IntKind.u32.wrap ((BitVec.ofInt 32 ((a.toNat : Nat) : Int) &&& BitVec.ofInt 32 (1 : Int)).toNat : Int) = _
  rw [BitVec.ofInt_natCast, BitVec.ofNat_toNat, BitVec.setWidth_eq, BitVec.toNat_and, show (BitVec.ofInt 32 (1 : Int)).toNat = 2 ^ 1 - 1 by decide, Nat.and_two_pow_sub_one_eq_mod]
  exact wrap_u32 (by omega)

set_option maxHeartbeats 800000 in
theorem rev_poly (w : World) : Calls Tryd.prog 58 #[.int .u32 79764919] w fun e w' => w = w' ∧ e = .returned (.int .u32 3988292384) := by
  go_enter Tryd.func58, Tryd.ntmps58
  go_wp2
  go_ret
  exact ⟨rfl, by kernel_rfl⟩

/-- One step of the table: a bit. -/
theorem step_eq (c : BitVec 32) : bits .xor .u32 ((c.toNat : Int) / 2) (3988292384 * ((c.toNat % 2 : Nat) : Int) % 4294967296) = (((Crc.F c).toNat : Nat) : Int) := by
  have e1 : ((c.toNat : Nat) : Int) / (2 : Int) = (((c >>> 1).toNat : Nat) : Int) := by
    rw [BitVec.toNat_ushiftRight, Nat.shiftRight_eq_div_pow]; rfl
  have e2 : 3988292384 * ((c.toNat % 2 : Nat) : Int) % 4294967296 = (((if c.getLsbD 0 then Crc.P else 0#32).toNat : Nat) : Int) := by
    have hb : c.getLsbD 0 = decide (c.toNat % 2 = 1) := by
      rw [BitVec.getLsbD, Nat.testBit_zero]
    rw [hb]
    rcases Nat.mod_two_eq_zero_or_one c.toNat with h | h
    · rw [h]; decide
    · rw [h]; decide
  rw [e1, e2, xor_u32]; rfl

/-- So many bits. -/
def Fk (c : BitVec 32) : Nat → BitVec 32
  | 0 => c
  | k + 1 => Crc.F (Fk c k)
theorem Fk8 (c : BitVec 32) : Fk c 8 = Crc.F8 c := rfl
/-- The table's numbers. -/
def tb (i : Nat) : Nat := (Crc.F8 (BitVec.ofNat 32 i)).toNat

set_option maxRecDepth 100000 in
set_option maxHeartbeats 1600000 in
theorem table_any (w : World) : Calls Tryd.prog 32 #[] w fun e w' => Below w.heap.size w w' ∧ e = .returned (.agg (ints .u32 ((List.range 256).map tb)).toArray) := by
  go_enter Tryd.func32, Tryd.ntmps32
  go_wp2
  have hz : Tryd.zeroCells38 = (ints .u32 (List.replicate 256 0)).toArray := by kernel_rfl
  have k1 : Bk ((w.alloc (.cells Tryd.zeroCells38 38)).alloc (.cells Tryd.zeroCells38 38)) (w.heap.size + 1) 38 (ints .u32 (List.replicate 256 0)).toArray := by
    have := Bk.new (w.alloc (.cells Tryd.zeroCells38 38)) 38 Tryd.zeroCells38
    rw [hz] at this ⊢
    simpa using this
  have k0 : Bk ((w.alloc (.cells Tryd.zeroCells38 38)).alloc (.cells Tryd.zeroCells38 38)) w.heap.size 38 (ints .u32 (List.replicate 256 0)).toArray := by
    have := (Bk.new w 38 Tryd.zeroCells38).alloc (.cells Tryd.zeroCells38 38)
    rw [hz] at this ⊢
    exact this
  have hB0 : Below w.heap.size w ((w.alloc (.cells Tryd.zeroCells38 38)).alloc (.cells Tryd.zeroCells38 38)) := ((Below.refl _ _).alloc (Nat.le_refl _) _).alloc (by simp) _
  clear hz
  go_loopw [4] (fun i wr => ∃ (j : Nat) (zs : List Nat), j ≤ 256 ∧ zs.length = 256 ∧ Hid (Upto zs j tb) ∧ i = .int .i64 j ∧ Hid (Bk wr (w.heap.size + 1) 38 (ints .u32 zs).toArray) ∧ Hid (Bk wr w.heap.size 38 (ints .u32 (List.replicate 256 0)).toArray) ∧ Below w.heap.size w wr) (fun i _ => 256 - (intOf i).toNat)
  case atStart => exact ⟨0, List.replicate 256 0, Nat.zero_le _, by simp, Upto.zero _ _, rfl, k1, k0, hB0⟩
  case round =>
    clear k1 k0 hB0
    obtain ⟨j, zs, hj, hz, HU, rfl, HK1, HK0, hB⟩ := hrel
    by_cases hlt : j < 256
    · have hd256 : decide ((j : Int) < 256) = true := by rw [decide_eq_true_eq]; omega
      have hX : (BitVec.ofNat 32 j).toNat = j := by rw [BitVec.toNat_ofNat]; omega
      go_wp2
      go_loop [3, 9] (fun x i => ∃ t : Nat, t ≤ 8 ∧ i = .int .i64 t ∧ x = cv (Fk (BitVec.ofNat 32 j) t)) (fun _ i => 8 - (intOf i).toNat)
      case atStart => exact ⟨0, Nat.zero_le _, rfl, by unfold cv Fk; rw [hX]⟩
      case round =>
        obtain ⟨t, ht, rfl, rfl⟩ := hrel
        by_cases hlt2 : t < 8
        · have hand := and1_u32 (Fk (BitVec.ofNat 32 j) t)
          have HS := Lib.hid (step_eq (Fk (BitVec.ofNat 32 j) t))
          have HF : Hid (Fk (BitVec.ofNat 32 j) (t + 1) = Crc.F (Fk (BitVec.ofNat 32 j) t)) := rfl
          have hxb := (Fk (BitVec.ofNat 32 j) t).isLt
          generalize Crc.F (Fk (BitVec.ofNat 32 j) t) = c2 at *
          unfold cv
          generalize (Fk (BitVec.ofNat 32 j) t).toNat = X at *
          generalize X % 2 = m at *
          go_wp2_with fail
          refine (rev_poly _).mono ?_
          rintro e w2 ⟨rfl, rfl⟩
          go_wp2
          go_round
          case rel =>
            refine ⟨t + 1, by omega, by go_num, ?_⟩
            rw [HF.out, ← HS.out]
          case measure => simp [intOf]; omega
        · obtain rfl : t = 8 := by omega
          have HT : Hid (cv (Fk (BitVec.ofNat 32 j) 8) = .int .u32 ((tb j : Nat) : Int)) := rfl
          rw [HT.out]
          have hc0 := (HK1.out.cell j)
          have hf0 := HK1.out.frozen j
          rw [ints_getD .u32 zs (by omega)] at hc0
          have HK2 : Hid (∀ x : Nat, Bk (wr.setCell ⟨w.heap.size + 1, j, none⟩ (.int .u32 (x : Int))) (w.heap.size + 1) 38 (ints .u32 (zs.set j x)).toArray) := fun x => by
            have := HK1.out.put j (.int .u32 (x : Int))
            rwa [ints_set] at this
          have HK3 : Hid (∀ u, Bk (wr.setCell ⟨w.heap.size + 1, j, none⟩ u) w.heap.size 38 (ints .u32 (List.replicate 256 0)).toArray) := fun u => HK0.out.far (by show w.heap.size ≠ w.heap.size + 1; omega) u
          have HU2 := Lib.hid (HU.out.succ (show j < zs.length by omega))
          generalize tb j = y at *
          generalize zs.getD j 0 = old at *
          go_wp2
          go_roundw
          case rel => exact ⟨j + 1, zs.set j y, by omega, by rw [List.length_set]; exact hz, HU2.out, by go_num, HK2.out _, HK3.out _, hB.setCell (by show w.heap.size ≤ w.heap.size + 1; omega) _⟩
          case measure => simp [intOf]; omega
    · obtain rfl : j = 256 := by omega
      have HE : Hid (zs = (List.range 256).map tb) := by
        apply ext_getD (by simp [hz])
        intro i hi
        rw [HU.out i (by omega)]
        simp [List.getD_eq_getElem?_getD, List.getElem?_range (show i < 256 by omega)]
      have hsz : (Tryd.prog.info? 38).map (·.size) = some 256 := by kernel_rfl
      have hsz1 : (ints .u32 zs).toArray.size = 256 := by simp [ints_length, hz]
      have hall : (ints .u32 zs).toArray.all (·.oneCell') = true := by
        rw [Array.all_eq_true_iff_forall_mem]
        intro v hv
        exact ints_one _ _ v (by simpa using hv)
      have HS := Lib.hid hsz1
      have HI : Hid ((Tryd.prog.info? 38).map (·.size) = some (ints .u32 zs).toArray.size) := by show _ = _; rw [hsz1]; exact hsz
      have HAL := Lib.hid hall
      have hB2 : Below w.heap.size w (wr.setRow w.heap.size (ints .u32 zs).toArray) := below_of_grown hB (grown_setRow wr w.heap.size _) hB.size (Nat.le_refl _)
      have HR : Hid ((wr.setRow w.heap.size (ints .u32 zs).toArray).heap[w.heap.size]? = some (.cells (ints .u32 zs).toArray 38 (0, 0))) := setRow_heap wr _ _ _ _ (0, 0) HK0.out
      clear hsz hsz1 hall
      go_wp2_with (first
        | (refine wpList_load_row rfl 38 (.tmp 1) rfl (w.heap.size + 1) rfl 38 (ints .u32 zs).toArray (0, 0) _ HK1.out Tryd.underlying38 rfl HI.out ?_)
        | (refine wpList_store_row rfl 38 (.tmp 0) (.tmp 23) rfl w.heap.size (ints .u32 zs).toArray rfl rfl 38 _ HK0.out HI.out (by rw [HS.out]; simp [ints_length]) HAL.out ?_))
      refine bodyPost_ret (v := .agg (ints .u32 zs).toArray) (results_cell_row (p := 0) (ty := 38) Tryd.results32 _ _ w.heap.size 38 (ints .u32 zs).toArray (0, 0) _ rfl HR.out Tryd.underlying38 rfl HI.out) rfl ?_
      exact ⟨hB2, by rw [HE.out]⟩
end Go.Proofs.YtmoenbdooilceaaDoor
