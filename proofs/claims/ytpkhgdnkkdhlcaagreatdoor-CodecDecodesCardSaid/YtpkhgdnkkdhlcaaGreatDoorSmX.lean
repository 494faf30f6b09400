/-
  The checksum: plain mathematics, of no program.
  Walks: package codec: the table of the checksum.
  Walks: package codec: the checksum; the reference's.
-/
import Derived.Below
import Derived.Test.YtpkhgdnkkdhlcaaGreatDoorCoX
import Derived.Test.YtpkhgdnkkdhlcaaGreatDoorCodX
import Derived.Test.YtpkhgdnkkdhlcaaGreatDoorSanX
import Derived.Laws.Tables
namespace Go.Proofs.YtpkhgdnkkdhlcaaGreatDoor.Crc

def P : BitVec 32 := 0xEDB88320#32
/-- One bit. -/
def F (c : BitVec 32) : BitVec 32 := (c >>> 1) ^^^ (if c.getLsbD 0 then P else 0#32)

theorem ite_xor (p q : Bool) : (if (p ^^ q) = true then P else 0#32) = (if p = true then P else 0#32) ^^^ (if q = true then P else 0#32) := by
  cases p <;> cases q <;> decide
theorem F_xor (a b : BitVec 32) : F (a ^^^ b) = F a ^^^ F b := by
  unfold F
  rw [BitVec.ushiftRight_xor_distrib, BitVec.getLsbD_xor, ite_xor]
  ac_rfl

def F8 (c : BitVec 32) : BitVec 32 := F (F (F (F (F (F (F (F c)))))))
theorem F8_xor (a b : BitVec 32) : F8 (a ^^^ b) = F8 a ^^^ F8 b := by unfold F8; simp only [F_xor]

def ones : BitVec 32 := 0xFFFFFFFF#32
/-- A byte into the state. -/
def by1 (c : BitVec 32) (x : Nat) : BitVec 32 := F8 (c ^^^ BitVec.ofNat 32 x)
def cs (c : BitVec 32) (l : List Nat) : BitVec 32 := l.foldl by1 c
def sumB (l : List Nat) : BitVec 32 := ~~~ cs ones l
theorem cs_snoc (c : BitVec 32) (l : List Nat) (x : Nat) : cs c (l ++ [x]) = by1 (cs c l) x := by simp [cs]
/-- Bit by bit. -/
def bit (x i : Nat) : BitVec 32 := BitVec.ofNat 32 (x / 2 ^ i % 2)
def bits8 (c : BitVec 32) (x : Nat) : Nat → BitVec 32
  | 0 => c
  | i + 1 => F (bits8 c x i ^^^ bit x i)
theorem xor_left_zero (a : BitVec 32) : 0#32 ^^^ a = a := by simp
theorem bits8_lin (c : BitVec 32) (x : Nat) : bits8 c x 8 = F8 c ^^^ bits8 0#32 x 8 := by
  have step : ∀ (a b d : BitVec 32), F ((a ^^^ b) ^^^ d) = F a ^^^ F (b ^^^ d) := fun a b d => by rw [BitVec.xor_assoc, F_xor]
  show F (F (F (F (F (F (F (F (c ^^^ _) ^^^ _) ^^^ _) ^^^ _) ^^^ _) ^^^ _) ^^^ _) ^^^ _) = F8 c ^^^ F (F (F (F (F (F (F (F (0#32 ^^^ _) ^^^ _) ^^^ _) ^^^ _) ^^^ _) ^^^ _) ^^^ _) ^^^ _)
  rw [xor_left_zero, F_xor c, step, step, step, step, step, step, step]; rfl
theorem byte_table : ∀ x : Fin 256, bits8 0#32 x.val 8 = F8 (BitVec.ofNat 32 x.val) := by decide +kernel
theorem bits8_by1 (c : BitVec 32) {x : Nat} (hx : x < 256) : bits8 c x 8 = by1 c x := by
  rw [bits8_lin, byte_table ⟨x, hx⟩]; exact (F8_xor _ _).symm
/-- All bits of bytes: the state in front of bit i. -/
def st (l : List Nat) : Nat → BitVec 32
  | 0 => ones
  | i + 1 => F (st l i ^^^ bit (l.getD (i / 8) 0) (i % 8))
theorem st_in (l : List Nat) (k : Nat) : ∀ i, i ≤ 8 → st l (8 * k + i) = bits8 (st l (8 * k)) (l.getD k 0) i
  | 0, _ => rfl
  | i + 1, h => by
    show F (st l (8 * k + i) ^^^ bit (l.getD ((8 * k + i) / 8) 0) ((8 * k + i) % 8)) = F (bits8 _ _ i ^^^ bit _ i)
    rw [st_in l k i (by omega), show (8 * k + i) / 8 = k by omega, show (8 * k + i) % 8 = i by omega]
theorem st_bytes {l : List Nat} (hl : ∀ x ∈ l, x < 256) : ∀ k, k ≤ l.length → st l (8 * k) = cs ones (l.take k)
  | 0, _ => by simp [st, cs]
  | k + 1, h => by
    have hk : k < l.length := h
    have hx : l.getD k 0 < 256 := by
      rw [List.getD_eq_getElem?_getD, List.getElem?_eq_getElem hk]; exact hl _ (List.getElem_mem _)
    rw [show 8 * (k + 1) = 8 * k + 8 by omega, st_in l k 8 (by omega), st_bytes hl k (by omega), bits8_by1 _ hx, List.take_succ_eq_append_getElem hk, cs_snoc]
    rw [List.getD_eq_getElem?_getD, List.getElem?_eq_getElem hk]; rfl
theorem sumB_st {l : List Nat} (hl : ∀ x ∈ l, x < 256) : sumB l = ~~~ st l (8 * l.length) := by
  rw [st_bytes hl _ (Nat.le_refl _), List.take_of_length_le (Nat.le_refl _)]; rfl

/-- By a table. -/
theorem F_even {c : BitVec 32} (h : c.getLsbD 0 = false) : F c = c >>> 1 := by unfold F; rw [h]; simp
theorem F8_high {c : BitVec 32} (h : ∀ i, i < 8 → c.getLsbD i = false) : F8 c = c >>> 8 := by
  unfold F8
  have e : ∀ k, k < 8 → F (c >>> k) = c >>> (k + 1) := fun k hk => by
    rw [F_even (by rw [BitVec.getLsbD_ushiftRight]; exact h _ (by omega)), BitVec.shiftRight_add]
  have e0 := e 0 (by omega)
  rw [BitVec.ushiftRight_zero] at e0
  rw [e0, e 1 (by omega), e 2 (by omega), e 3 (by omega), e 4 (by omega), e 5 (by omega), e 6 (by omega), e 7 (by omega)]
theorem low_high (c : BitVec 32) : c = BitVec.ofNat 32 (c.toNat % 256) ^^^ (c &&& 0xFFFFFF00#32) := by
  have hm : BitVec.ofNat 32 (c.toNat % 256) = c &&& 0xFF#32 := by
    apply BitVec.eq_of_toNat_eq
    rw [BitVec.toNat_and, BitVec.toNat_ofNat]
    show c.toNat % 256 % 2 ^ 32 = c.toNat &&& (2 ^ 8 - 1)
    rw [Nat.and_two_pow_sub_one_eq_mod]
    omega
  rw [hm]
  apply BitVec.eq_of_getLsbD_eq
  intro i hi
  rw [BitVec.getLsbD_xor, BitVec.getLsbD_and, BitVec.getLsbD_and]
  have := (show ∀ i : Fin 32, ((0xFF#32).getLsbD i.val ^^ (0xFFFFFF00#32).getLsbD i.val) = true by decide) ⟨i, hi⟩
  generalize (0xFF#32).getLsbD i = p at *
  generalize (0xFFFFFF00#32).getLsbD i = q at *
  generalize c.getLsbD i = r
  revert this; cases p <;> cases q <;> cases r <;> decide
/-- What the table does: the low byte and the byte choose, the rest is shifted. -/
theorem by1_table (c : BitVec 32) {x : Nat} (hx : x < 256) : by1 c x = F8 (BitVec.ofNat 32 ((c.toNat % 256) ^^^ x)) ^^^ (c >>> 8) := by
  have e1 : BitVec.ofNat 32 ((c.toNat % 256) ^^^ x) = BitVec.ofNat 32 (c.toNat % 256) ^^^ BitVec.ofNat 32 x := by
    apply BitVec.eq_of_toNat_eq
    have h1 : c.toNat % 256 < 2 ^ 8 := Nat.mod_lt _ (by decide)
    have h2 := Nat.xor_lt_two_pow h1 (show x < 2 ^ 8 from hx)
    generalize c.toNat % 256 = y at *
    rw [BitVec.toNat_xor, BitVec.toNat_ofNat, BitVec.toNat_ofNat, BitVec.toNat_ofNat, Nat.mod_eq_of_lt (show y < 2 ^ 32 by omega), Nat.mod_eq_of_lt (show x < 2 ^ 32 by omega), Nat.mod_eq_of_lt (by omega)]
  have e2 : (c >>> 8) = F8 (c &&& 0xFFFFFF00#32) := by
    rw [F8_high fun i hi => by
      rw [BitVec.getLsbD_and]
      have : (0xFFFFFF00#32).getLsbD i = false := by
        have := (show ∀ i : Fin 8, (0xFFFFFF00#32).getLsbD i.val = false by decide) ⟨i, hi⟩
        exact this
      rw [this, Bool.and_false]]
    apply BitVec.eq_of_getLsbD_eq
    intro i hi
    rw [BitVec.getLsbD_ushiftRight, BitVec.getLsbD_ushiftRight, BitVec.getLsbD_and]
    rcases Nat.lt_or_ge i 24 with h | h
    · have := (show ∀ i : Fin 24, (0xFFFFFF00#32).getLsbD (8 + i.val) = true by decide) ⟨i, h⟩
      rw [this, Bool.and_true]
    · rw [BitVec.getLsbD_of_ge c (8 + i) (by omega), Bool.false_and]
  rw [e1, e2, F8_xor]
  unfold by1
  rw [F8_xor]
  conv => lhs; rw [low_high c]
  rw [F8_xor]
  ac_rfl
end Go.Proofs.YtpkhgdnkkdhlcaaGreatDoor.Crc

namespace Go.Proofs.YtpkhgdnkkdhlcaaGreatDoor
open Go.RowKit By

/-- The state of the checksum as a value. -/
def cv (c : BitVec 32) : Value := .int .u32 ((c.toNat : Nat) : Int)
theorem xor_u32 (a b : BitVec 32) : bits .xor .u32 ((a.toNat : Nat) : Int) ((b.toNat : Nat) : Int) = (((a ^^^ b).toNat : Nat) : Int) := by
  show IntKind.u32.wrap ((BitVec.ofInt 32 ((a.toNat : Nat) : Int) ^^^ BitVec.ofInt 32 ((b.toNat : Nat) : Int)).toNat : Int) = _
  rw [BitVec.ofInt_natCast, BitVec.ofInt_natCast, BitVec.ofNat_toNat, BitVec.ofNat_toNat, BitVec.setWidth_eq, BitVec.setWidth_eq]
  exact wrap_u32 (BitVec.isLt _)
theorem xor_u8 {a b : Nat} (ha : a < 256) (hb : b < 256) : bits .xor .u8 (a : Int) (b : Int) = ((a ^^^ b : Nat) : Int) := by
  show IntKind.u8.wrap ((BitVec.ofInt 8 (a : Int) ^^^ BitVec.ofInt 8 (b : Int)).toNat : Int) = _
  rw [BitVec.ofInt_natCast, BitVec.ofInt_natCast, BitVec.toNat_xor, BitVec.toNat_ofNat, BitVec.toNat_ofNat, Nat.mod_eq_of_lt (show a < 2 ^ 8 from ha), Nat.mod_eq_of_lt (show b < 2 ^ 8 from hb)]
  exact wrap_u8 (Nat.xor_lt_two_pow (n := 8) ha hb)
theorem and1_u32 (a : BitVec 32) : bits .and .u32 ((a.toNat : Nat) : Int) 1 = ((a.toNat % 2 : Nat) : Int) := by
  show IntKind.u32.wrap ((BitVec.ofInt 32 ((a.toNat : Nat) : Int) &&& BitVec.ofInt 32 (1 : Int)).toNat : Int) = _
  rw [BitVec.ofInt_natCast, BitVec.ofNat_toNat, BitVec.setWidth_eq, BitVec.toNat_and, show (BitVec.ofInt 32 (1 : Int)).toNat = 2 ^ 1 - 1 by decide, Nat.and_two_pow_sub_one_eq_mod]
  exact wrap_u32 (by omega)

set_option maxHeartbeats 800000 in
theorem rev_poly (w : World) : Calls Tryz.prog 196 #[.int .u32 79764919] w fun e w' => w = w' ∧ e = .returned (.int .u32 3988292384) := by
  go_enter Tryz.func196, Tryz.ntmps196
  go_wp2
  go_ret
  exact ⟨rfl, by kernel_rfl⟩

/-- One step of the table: a bit. -/
theorem step_eq (c : BitVec 32) : bits .xor .u32 ((c.toNat : Int) / 2) (3988292384 * ((c.toNat % 2 : Nat) : Int) % 4294967296) = (((Crc.F c).toNat : Nat) : Int) := by
  have e1 : ((c.toNat : Nat) : Int) / (2 : Int) = (((c >>> 1).toNat : Nat) : Int) := by
    rw [BitVec.toNat_ushiftRight, Nat.shiftRight_eq_div_pow]; rfl
  have e2 : 3988292384 * ((c.toNat % 2 : Nat) : Int) % 4294967296 = (((if c.getLsbD 0 then Crc.P else 0#32).toNat : Nat) : Int) := by
    have hb : c.getLsbD 0 = decide (c.toNat % 2 = 1) := by
      rw [BitVec.getLsbD, Nat.testBit_zero]
    rw [hb]
    rcases Nat.mod_two_eq_zero_or_one c.toNat with h | h
    · rw [h]; decide
    · rw [h]; decide
  rw [e1, e2, xor_u32]; rfl

/-- So many bits. -/
def Fk (c : BitVec 32) : Nat → BitVec 32
  | 0 => c
  | k + 1 => Crc.F (Fk c k)
/-- The table's numbers. -/
def tb (i : Nat) : Nat := (Crc.F8 (BitVec.ofNat 32 i)).toNat

set_option maxRecDepth 100000 in
set_option maxHeartbeats 1600000 in
theorem table_any (w : World) : Calls Tryz.prog 154 #[] w fun e w' => Below w.heap.size w w' ∧ e = .returned (.agg (ints .u32 ((List.range 256).map tb)).toArray) := by
  go_enter Tryz.func154, Tryz.ntmps154
  go_wp2
  have hz : Tryz.zeroCells148 = (ints .u32 (List.replicate 256 0)).toArray := by kernel_rfl
  have k1 : Bk ((w.alloc (.cells Tryz.zeroCells148 148)).alloc (.cells Tryz.zeroCells148 148)) (w.heap.size + 1) 148 (ints .u32 (List.replicate 256 0)).toArray := by
    have := Bk.new (w.alloc (.cells Tryz.zeroCells148 148)) 148 Tryz.zeroCells148
    rw [hz] at this ⊢
    simpa using this
  have k0 : Bk ((w.alloc (.cells Tryz.zeroCells148 148)).alloc (.cells Tryz.zeroCells148 148)) w.heap.size 148 (ints .u32 (List.replicate 256 0)).toArray := by
    have := (Bk.new w 148 Tryz.zeroCells148).alloc (.cells Tryz.zeroCells148 148)
    rw [hz] at this ⊢
    exact this
  have hB0 : Below w.heap.size w ((w.alloc (.cells Tryz.zeroCells148 148)).alloc (.cells Tryz.zeroCells148 148)) := ((Below.refl _ _).alloc (Nat.le_refl _) _).alloc (by simp) _
  clear hz
  go_loopw [4] (fun i wr => ∃ (j : Nat) (zs : List Nat), j ≤ 256 ∧ zs.length = 256 ∧ Hid (Upto zs j tb) ∧ i = .int .i64 j ∧ Hid (Bk wr (w.heap.size + 1) 148 (ints .u32 zs).toArray) ∧ Hid (Bk wr w.heap.size 148 (ints .u32 (List.replicate 256 0)).toArray) ∧ Below w.heap.size w wr) (fun i _ => 256 - (intOf i).toNat)
  case atStart => exact ⟨0, List.replicate 256 0, Nat.zero_le _, by simp, Upto.zero _ _, rfl, k1, k0, hB0⟩
  case round =>
    clear k1 k0 hB0
    obtain ⟨j, zs, hj, hz, HU, rfl, HK1, HK0, hB⟩ := hrel
    by_cases hlt : j < 256
    · have hd256 : decide ((j : Int) < 256) = true := by rw [decide_eq_true_eq]; omega
      have hX : (BitVec.ofNat 32 j).toNat = j := by rw [BitVec.toNat_ofNat]; omega
      go_wp2
      go_loop [3, 9] (fun x i => ∃ t : Nat, t ≤ 8 ∧ i = .int .i64 t ∧ x = cv (Fk (BitVec.ofNat 32 j) t)) (fun _ i => 8 - (intOf i).toNat)
      case atStart => exact ⟨0, Nat.zero_le _, rfl, by unfold cv Fk; rw [hX]⟩
      case round =>
        obtain ⟨t, ht, rfl, rfl⟩ := hrel
        by_cases hlt2 : t < 8
        · have hand := and1_u32 (Fk (BitVec.ofNat 32 j) t)
          have HS := Lib.hid (step_eq (Fk (BitVec.ofNat 32 j) t))
          have HF : Hid (Fk (BitVec.ofNat 32 j) (t + 1) = Crc.F (Fk (BitVec.ofNat 32 j) t)) := rfl
          have hxb := (Fk (BitVec.ofNat 32 j) t).isLt
          generalize Crc.F (Fk (BitVec.ofNat 32 j) t) = c2 at *
          unfold cv
          generalize (Fk (BitVec.ofNat 32 j) t).toNat = X at *
          generalize X % 2 = m at *
          go_wp2_with fail
          refine (rev_poly _).mono ?_
          rintro e w2 ⟨rfl, rfl⟩
          go_wp2
          go_round
          case rel =>
            refine ⟨t + 1, by omega, by go_num, ?_⟩
            rw [HF.out, ← HS.out]
          case measure => simp [intOf]; omega
        · obtain rfl : t = 8 := by omega
          have HT : Hid (cv (Fk (BitVec.ofNat 32 j) 8) = .int .u32 ((tb j : Nat) : Int)) := rfl
          rw [HT.out]
          have hc0 := (HK1.out.cell j)
          have hf0 := HK1.out.frozen j
          rw [ints_getD .u32 zs (by omega)] at hc0
          have HK2 : Hid (∀ x : Nat, Bk (wr.setCell ⟨w.heap.size + 1, j, none⟩ (.int .u32 (x : Int))) (w.heap.size + 1) 148 (ints .u32 (zs.set j x)).toArray) := fun x => by
            have := HK1.out.put j (.int .u32 (x : Int))
            rwa [ints_set] at this
          have HK3 : Hid (∀ u, Bk (wr.setCell ⟨w.heap.size + 1, j, none⟩ u) w.heap.size 148 (ints .u32 (List.replicate 256 0)).toArray) := fun u => HK0.out.far (by show w.heap.size ≠ w.heap.size + 1; omega) u
          have HU2 := Lib.hid (HU.out.succ (show j < zs.length by omega))
          generalize tb j = y at *
          generalize zs.getD j 0 = old at *
          go_wp2
          go_roundw
          case rel => exact ⟨j + 1, zs.set j y, by omega, by rw [List.length_set]; exact hz, HU2.out, by go_num, HK2.out _, HK3.out _, hB.setCell (by show w.heap.size ≤ w.heap.size + 1; omega) _⟩
          case measure => simp [intOf]; omega
    · obtain rfl : j = 256 := by omega
      have HE : Hid (zs = (List.range 256).map tb) := by
        apply ext_getD (by simp [hz])
        intro i hi
        rw [HU.out i (by omega)]
        simp [List.getD_eq_getElem?_getD, List.getElem?_range (show i < 256 by omega)]
      have hsz : (Tryz.prog.info? 148).map (·.size) = some 256 := by kernel_rfl
      have hsz1 : (ints .u32 zs).toArray.size = 256 := by simp [ints_length, hz]
      have hall : (ints .u32 zs).toArray.all (·.oneCell') = true := by
        rw [Array.all_eq_true_iff_forall_mem]
        intro v hv
        exact ints_one _ _ v (by simpa using hv)
      have HS := Lib.hid hsz1
      have HI : Hid ((Tryz.prog.info? 148).map (·.size) = some (ints .u32 zs).toArray.size) := by show _ = _; rw [hsz1]; exact hsz
      have HAL := Lib.hid hall
      have hB2 : Below w.heap.size w (wr.setRow w.heap.size (ints .u32 zs).toArray) := below_of_grown hB (grown_setRow wr w.heap.size _) hB.size (Nat.le_refl _)
      have HR : Hid ((wr.setRow w.heap.size (ints .u32 zs).toArray).heap[w.heap.size]? = some (.cells (ints .u32 zs).toArray 148 (0, 0))) := setRow_heap wr _ _ _ _ (0, 0) HK0.out
      clear hsz hsz1 hall
      go_wp2_with (first
        | (refine wpList_load_row rfl 148 (.tmp 1) rfl (w.heap.size + 1) rfl 148 (ints .u32 zs).toArray (0, 0) _ HK1.out Tryz.underlying148 rfl HI.out ?_)
        | (refine wpList_store_row rfl 148 (.tmp 0) (.tmp 23) rfl w.heap.size (ints .u32 zs).toArray rfl rfl 148 _ HK0.out HI.out (by rw [HS.out]; simp [ints_length]) HAL.out ?_))
      refine bodyPost_ret (v := .agg (ints .u32 zs).toArray) (results_cell_row (p := 0) (ty := 148) Tryz.results154 _ _ w.heap.size 148 (ints .u32 zs).toArray (0, 0) _ rfl HR.out Tryz.underlying148 rfl HI.out) rfl ?_
      exact ⟨hB2, by rw [HE.out]⟩
end Go.Proofs.YtpkhgdnkkdhlcaaGreatDoor

namespace Go.Proofs.YtpkhgdnkkdhlcaaGreatDoor
open Go.RowKit By

/-- The table in memory. -/
def tbl : List Nat := (List.range 256).map tb
theorem tbl_at {i : Nat} (h : i < 256) : tbl.getD i 0 = tb i := by simp [tbl, List.getD_eq_getElem?_getD, List.getElem?_range h]
theorem tbl_len : tbl.length = 256 := by simp [tbl]
theorem shr8 (c : BitVec 32) : ((c.toNat : Nat) : Int) / (256 : Int) = (((c >>> 8).toNat : Nat) : Int) := by
  rw [BitVec.toNat_ushiftRight, Nat.shiftRight_eq_div_pow]; rfl
theorem not_u32 (c : BitVec 32) : bits .xor .u32 IntKind.u32.max ((c.toNat : Nat) : Int) = (((~~~c).toNat : Nat) : Int) := by
  have := xor_u32 (BitVec.allOnes 32) c
  rw [BitVec.allOnes_xor] at this
  exact this

set_option maxRecDepth 100000 in
set_option maxHeartbeats 1600000 in
theorem checksum_any (A : Option Addr) (cc : Nat) (l : List Nat) (w : World) (hl : Bytes l) (hm : l.length ≤ 100000000) (h : Rd w w.heap.size A (ints .u8 l)) :
    Calls Tryz.prog 106 #[.slice A l.length cc] w fun e w' => Below w.heap.size w w' ∧ e = .returned (cv (Crc.sumB l)) := by
  have hsz : (Tryz.prog.info? 148).map (·.size) = some 256 := by kernel_rfl
  have hsz1 : (ints .u32 tbl).toArray.size = 256 := by simp [ints_length, tbl_len]
  have hz : Tryz.zeroCells148 = (ints .u32 (List.replicate 256 0)).toArray := by kernel_rfl
  have hall : (ints .u32 tbl).toArray.all (·.oneCell') = true := by
    rw [Array.all_eq_true_iff_forall_mem]
    intro v hv
    exact ints_one _ _ v (by simpa using hv)
  have HI : Hid ((Tryz.prog.info? 148).map (·.size) = some (ints .u32 tbl).toArray.size) := by show _ = _; rw [hsz1]; exact hsz
  have HZ : Hid (Tryz.zeroCells148.size = (ints .u32 tbl).toArray.size) := by show _ = _; rw [hz, hsz1]; simp [ints_length]
  have HAL := Lib.hid hall
  clear hsz hsz1 hall hz
  go_enter Tryz.func106, Tryz.ntmps106
  go_wp2_with fail
  refine (table_any _).mono ?_
  rintro e w1 ⟨hb1, rfl⟩
  have HT : Hid ((ints .u32 ((List.range 256).map tb)).toArray = (ints .u32 tbl).toArray) := rfl
  rw [HT.out]
  generalize hcs : (ints .u32 tbl).toArray = cs at HI HZ HAL ⊢
  have HCS := Lib.hid hcs
  clear hcs HT
  have hk0 := Bk.new w1 148 Tryz.zeroCells148
  have hk1 : Hid (Bk ((w1.alloc (.cells Tryz.zeroCells148 148)).setRow w1.heap.size cs) w1.heap.size 148 cs) := setRow_heap _ _ _ _ _ (0, 0) hk0
  have hB1 : Below w.heap.size w ((w1.alloc (.cells Tryz.zeroCells148 148)).setRow w1.heap.size cs) := below_of_grown (hb1.alloc hb1.size _) (grown_setRow _ w1.heap.size _) (by have := hb1.size; simp; omega) hb1.size
  go_wp2_with (refine wpList_store_row rfl 148 (.tmp 3) (.tmp 7) rfl w1.heap.size cs rfl rfl 148 _ hk0 HI.out HZ.out HAL.out ?_)
  refine wp_named (fun W => Bk W w1.heap.size 148 cs ∧ Below w.heap.size w W) ⟨hk1.out, hB1⟩ ?_
  rintro W ⟨hk, hB⟩
  clear hk0 hk1 hB1 HI HZ HAL
  have hA := h.below hB
  go_loop [4, 10] (fun x i => ∃ j : Nat, j ≤ l.length ∧ i = .int .i64 j ∧ x = cv (Crc.cs Crc.ones (l.take j))) (fun _ i => l.length - (intOf i).toNat)
  case atStart => exact ⟨0, Nat.zero_le _, rfl, rfl⟩
  case round =>
    obtain ⟨j, hj, rfl, rfl⟩ := hrel
    by_cases hlt : j < l.length
    · obtain ⟨ad, rfl, hab, hcell⟩ := hA.int (j := j) hlt
      have hx := hl.at_ j
      have HN : Hid (Crc.cs Crc.ones (l.take (j + 1)) = Crc.by1 (Crc.cs Crc.ones (l.take j)) (l.getD j 0)) := by
        show _ = _
        rw [List.take_succ_eq_append_getElem hlt, Crc.cs_snoc, List.getD_eq_getElem?_getD, List.getElem?_eq_getElem hlt]; rfl
      generalize l.getD j 0 = x at *
      generalize Crc.cs Crc.ones (l.take j) = c at *
      have hm8 : c.toNat % 256 < 256 := Nat.mod_lt _ (by decide)
      have hI := Nat.xor_lt_two_pow (n := 8) hm8 hx
      have x1 : bits .xor .u8 (((c.toNat : Nat) : Int) % (256 : Int)) (x : Int) = (((c.toNat % 256) ^^^ x : Nat) : Int) := by
        rw [← xor_u8 hm8 hx, Int.natCast_emod]; rfl
      have x2 := shr8 c
      have x3 := xor_u32 (Crc.F8 (BitVec.ofNat 32 ((c.toNat % 256) ^^^ x))) (c >>> 8)
      rw [← Crc.by1_table c hx] at x3
      have hc0 := hk.cell ((c.toNat % 256) ^^^ x)
      rw [← HCS.out, ints_getD .u32 tbl (by rw [tbl_len]; exact hI), tbl_at hI] at hc0
      unfold tb at hc0
      generalize Crc.by1 c x = c2 at *
      unfold cv
      have hcb := c.isLt
      generalize (c >>> 8).toNat = sh at *
      generalize hY : (c.toNat % 256) ^^^ x = y at *
      generalize (Crc.F8 (BitVec.ofNat 32 y)).toNat = f at *
      have HY := Lib.hid hY
      clear hY
      generalize c.toNat = X at *
      clear hm8
      go_wp2
      go_round
      case rel =>
        refine ⟨j + 1, by omega, by go_num, ?_⟩
        rw [HN.out]
      case measure => simp [intOf]; omega
    · obtain rfl : l.length = j := by omega
      have HE : Hid (Crc.cs Crc.ones (l.take l.length) = Crc.cs Crc.ones l) := by show _ = _; rw [List.take_of_length_le (Nat.le_refl _)]
      rw [HE.out]
      have HV : Hid (cv (Crc.sumB l) = .int .u32 (((~~~ Crc.cs Crc.ones l).toNat : Nat) : Int)) := rfl
      have x3 := not_u32 (Crc.cs Crc.ones l)
      unfold cv
      generalize (~~~ Crc.cs Crc.ones l).toNat = y at *
      generalize (Crc.cs Crc.ones l).toNat = X at *
      go_wp2
      go_ret
      exact ⟨hB, by rw [HV.out]; rfl⟩

/-- A bit of a byte, in the walk's words. -/
theorem bit_u32 {x i : Nat} (hx : x < 256) : bits .and .u32 ((x / 2 ^ i : Nat) : Int) 1 = ((x / 2 ^ i % 2 : Nat) : Int) := by
  have h := and1_u32 (BitVec.ofNat 32 (x / 2 ^ i))
  have hl : x / 2 ^ i < 2 ^ 32 := Nat.lt_of_le_of_lt (Nat.div_le_self _ _) (by omega)
  rw [BitVec.toNat_ofNat, Nat.mod_eq_of_lt hl] at h
  exact h
theorem bit_toNat {x i : Nat} : (Crc.bit x i).toNat = x / 2 ^ i % 2 := by unfold Crc.bit; rw [BitVec.toNat_ofNat]; omega
theorem F_split (c : BitVec 32) : Crc.F c = (c >>> 1) ^^^ (if c.toNat % 2 = 1 then Crc.P else 0#32) := by
  have hb : c.getLsbD 0 = decide (c.toNat % 2 = 1) := by rw [BitVec.getLsbD, Nat.testBit_zero]
  unfold Crc.F; rw [hb]; simp
theorem shr1 (c : BitVec 32) : ((c.toNat : Nat) : Int) / (2 : Int) = (((c >>> 1).toNat : Nat) : Int) := by
  rw [BitVec.toNat_ushiftRight, Nat.shiftRight_eq_div_pow]; rfl
theorem shr_xor_bit (c : BitVec 32) (x i : Nat) : (c ^^^ Crc.bit x i) >>> 1 = c >>> 1 := by
  rw [BitVec.ushiftRight_xor_distrib]
  have : Crc.bit x i >>> 1 = 0#32 := by
    apply BitVec.eq_of_toNat_eq
    rw [BitVec.toNat_ushiftRight, bit_toNat, Nat.shiftRight_eq_div_pow]
    simp
  rw [this, BitVec.xor_zero]

set_option maxRecDepth 100000 in
set_option maxHeartbeats 1600000 in
theorem rchecksum_any (A : Option Addr) (cc : Nat) (l : List Nat) (w : World) (hl : Bytes l) (hm : l.length ≤ 100000000) (h : Rd w w.heap.size A (ints .u8 l)) :
    Calls Tryz.prog 113 #[.slice A l.length cc] w fun e w' => w = w' ∧ e = .returned (cv (Crc.sumB l)) := by
  go_enter Tryz.func113, Tryz.ntmps113
  go_wp2
  go_loop [3, 4] (fun x i => ∃ j : Nat, j ≤ 8 * l.length ∧ i = .int .i64 j ∧ x = cv (Crc.st l j)) (fun _ i => 8 * l.length - (intOf i).toNat)
  case atStart => exact ⟨0, Nat.zero_le _, rfl, rfl⟩
  case round =>
    obtain ⟨j, hj, rfl, rfl⟩ := hrel
    by_cases hlt : j < 8 * l.length
    · obtain ⟨ad, rfl, hab, hcell⟩ := h.int (j := j / 8) (by omega)
      have hx := hl.at_ (j / 8)
      have HN : Hid (Crc.st l (j + 1) = Crc.F (Crc.st l j ^^^ Crc.bit (l.getD (j / 8) 0) (j % 8))) := rfl
      generalize l.getD (j / 8) 0 = x at *
      generalize Crc.st l j = c at *
      have x1 := bit_u32 (i := j % 8) hx
      have x2 := xor_u32 c (Crc.bit x (j % 8))
      rw [bit_toNat] at x2
      have x3 := and1_u32 (c ^^^ Crc.bit x (j % 8))
      have x4 := shr1 c
      have hsp := F_split (c ^^^ Crc.bit x (j % 8))
      rw [shr_xor_bit] at hsp
      have y1 : IntKind.i64.wrap ((j : Int) / 8) = (j : Int) / 8 := IntWalk.i64_in _ (by omega)
      have y2 : ((j : Int) / 8).toNat = j / 8 := by omega
      have y3 : 0 ≤ (j : Int) / 8 := by omega
      have y4 : (j : Int) / 8 < l.length := by omega
      obtain ⟨t, ht⟩ : ∃ t, t = j % 8 := ⟨_, rfl⟩
      rw [← ht] at x1 x2 x3 HN hsp
      have y5 : (j : Int).tmod 8 = (t : Int) := by rw [Int.tmod_eq_emod_of_nonneg (by omega)]; omega
      have y6 : (t : Int) ≤ 8 := by omega
      have y7 : 0 ≤ (t : Int) := by omega
      have y8 : ((x / 2 ^ t : Nat) : Int) = (x : Int) / 2 ^ t := by simp
      have y9 : ((x / 2 ^ t : Nat) : Int) % 4294967296 = ((x / 2 ^ t : Nat) : Int) := Int.emod_eq_of_lt (Int.natCast_nonneg _) (by have : x / 2 ^ t < 256 := Nat.lt_of_le_of_lt (Nat.div_le_self x (2 ^ t)) hx; generalize x / 2 ^ t = v at *; omega)
      rw [← y9, y8] at x1
      have HT := Lib.hid ht
      clear ht y8 y9
      generalize x / 2 ^ t % 2 = bb at *
      have HG : Hid (cv (Crc.st l (j + 1)) = .int .u32 (((c >>> 1) ^^^ (if (c ^^^ Crc.bit x t).toNat % 2 = 1 then Crc.P else 0#32)).toNat : Nat)) := by show _ = _; rw [HN.out, hsp]; rfl
      clear HN hsp
      unfold cv
      generalize hc2 : c ^^^ Crc.bit x t = c2 at *
      have x5 := xor_u32 (c >>> 1) Crc.P
      generalize hsh : (c >>> 1).toNat = sh at *
      generalize c2.toNat = C at *
      obtain ⟨m, hmm⟩ : ∃ m, m = C % 2 := ⟨_, rfl⟩
      rw [← hmm] at x3 HG
      by_cases hodd : m = 1
      · have z1 : (((C : Nat) : Int) % 2 == 1) = true := by rw [beq_iff_eq]; omega
        rw [if_pos hodd] at HG
        clear hsh
        generalize ((c >>> 1) ^^^ Crc.P).toNat = Z at *
        have HZZ : bits .xor .u32 (sh : Int) 3988292384 = (Z : Int) := x5
        clear x5
        have HG2 : Hid (Z = (Crc.st l (j + 1)).toNat) := by have e := HG.out; unfold cv at e; injection e with _ e; show _ = _; omega
        clear HG
        go_wp2
        go_round
        case rel =>
          refine ⟨j + 1, by omega, by go_num, ?_⟩
          rw [HG2.out]
        case measure => simp [intOf]; omega
      · have z1 : (((C : Nat) : Int) % 2 == 1) = false := by rw [beq_eq_false_iff_ne]; omega
        rw [if_neg hodd, BitVec.xor_zero] at HG
        rw [hsh] at HG
        have HG2 : Hid (sh = (Crc.st l (j + 1)).toNat) := by have e := HG.out; unfold cv at e; injection e with _ e; show _ = _; omega
        clear HG hsh
        go_wp2
        go_round
        case rel =>
          refine ⟨j + 1, by omega, by go_num, ?_⟩
          rw [HG2.out]
        case measure => simp [intOf]; omega
    · obtain rfl : j = 8 * l.length := by omega
      have HV : Hid (cv (Crc.sumB l) = .int .u32 (((~~~ Crc.st l (8 * l.length)).toNat : Nat) : Int)) := by show _ = _; rw [Crc.sumB_st hl]; rfl
      have x3 := not_u32 (Crc.st l (8 * l.length))
      unfold cv
      generalize (~~~ Crc.st l (8 * l.length)).toNat = y at *
      generalize (Crc.st l (8 * l.length)).toNat = X at *
      go_wp2
      go_ret
      exact ⟨rfl, by rw [HV.out]; rfl⟩
end Go.Proofs.YtpkhgdnkkdhlcaaGreatDoor
