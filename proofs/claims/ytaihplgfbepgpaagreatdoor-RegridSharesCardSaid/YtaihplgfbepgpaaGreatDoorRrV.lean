/-
  Plain law: what two cells have in common around a cylinder.
  Walks: package regrid's floor, round, rounded.
  Walks: package regrid's periodic, CommonRound.
  Walks: the reference's isPeriod, wide, round, CommonRound.
-/
import Derived.Test.YtaihplgfbepgpaaGreatDoorRcV
import Derived.Test.YtaihplgfbepgpaaGreatDoorRecT
namespace Geo

def sumI (lo : Int) (c : Int → Rat) : Nat → Rat
  | 0 => 0
  | n + 1 => sumI lo c n + c (lo + n)
theorem sumI_split (c : Int → Rat) (lo : Int) (m : Nat) : ∀ n, sumI lo c (m + n) = sumI lo c m + sumI (lo + m) c n
  | 0 => by show sumI lo c m = _ + 0; grind
  | n + 1 => by
    show sumI lo c (m + n) + c (lo + ((m + n : Nat) : Int)) = sumI lo c m + (sumI (lo + m) c n + c (lo + m + n))
    rw [sumI_split c lo m n, show lo + ((m + n : Nat) : Int) = lo + m + n by omega]; grind
theorem sumI_zero {c : Int → Rat} {lo : Int} : ∀ {n : Nat}, (∀ k, lo ≤ k → k < lo + n → c k = 0) → sumI lo c n = 0
  | 0, _ => rfl
  | n + 1, h => by
    show sumI lo c n + c (lo + n) = 0
    rw [sumI_zero fun k h1 h2 => h k h1 (by omega), h (lo + n) (by omega) (by omega)]; grind
theorem sumI_widen {c : Int → Rat} {lo L : Int} {n N : Nat} (h1 : L ≤ lo) (h2 : lo + n ≤ L + N) (h : ∀ k, c k ≠ 0 → lo ≤ k ∧ k < lo + n) : sumI L c N = sumI lo c n := by
  obtain ⟨a, ha⟩ : ∃ a : Nat, lo = L + a := ⟨(lo - L).toNat, by omega⟩
  obtain ⟨b, hb⟩ : ∃ b : Nat, N = a + n + b := ⟨N - (a + n), by omega⟩
  subst hb ha
  have z : ∀ k, ¬ (L + a ≤ k ∧ k < L + a + n) → c k = 0 := fun k hk => Classical.byContradiction fun hc => hk (h k hc)
  rw [sumI_split, sumI_split, sumI_zero (n := a) fun k k1 k2 => z k (by omega), sumI_zero (n := b) fun k k1 k2 => z k (by omega)]
  grind
theorem sumI_eq {c : Int → Rat} {lo lo' : Int} {n n' : Nat} (h : ∀ k, c k ≠ 0 → lo ≤ k ∧ k < lo + n) (h' : ∀ k, c k ≠ 0 → lo' ≤ k ∧ k < lo' + n') : sumI lo c n = sumI lo' c n' := by
  have a := sumI_widen (c := c) (lo := lo) (L := min lo lo') (n := n) (N := (max (lo + n) (lo' + n') - min lo lo').toNat) (by omega) (by omega) h
  have b := sumI_widen (c := c) (lo := lo') (L := min lo lo') (n := n') (N := (max (lo + n) (lo' + n') - min lo lo').toNat) (by omega) (by omega) h'
  rw [← a, ← b]
theorem sumI_shift (c : Int → Rat) (lo d : Int) : ∀ n, sumI lo (fun k => c (k + d)) n = sumI (lo + d) c n
  | 0 => rfl
  | n + 1 => by
    show sumI lo (fun k => c (k + d)) n + c (lo + n + d) = sumI (lo + d) c n + c (lo + d + n)
    rw [sumI_shift c lo d n, show lo + n + d = lo + d + n by omega]
theorem sumI_nonneg {c : Int → Rat} {lo : Int} (h : ∀ k, 0 ≤ c k) : ∀ n, 0 ≤ sumI lo c n
  | 0 => Rat.le_refl
  | n + 1 => by
    show 0 ≤ sumI lo c n + c (lo + n)
    have := sumI_nonneg h n (lo := lo)
    have := h (lo + n)
    grind
/-- Rounded down, for a divisor above 0. -/
theorem floor_bounds {a p : Int} (hp : 0 < p) : p * (a / p) ≤ a ∧ a < p * (a / p) + p := by
  have h1 := Int.mul_ediv_add_emod a p
  have h2 := Int.emod_nonneg a (by omega : p ≠ 0)
  have h3 := Int.emod_lt_of_pos a hp
  omega
/-- Where two cells can meet around a cylinder: the program's range. -/
theorem range_prog {aL aR bL bR p k : Int} (hp : 0 < p) (h1 : bL + k * p < aR) (h2 : aL < bR + k * p) : (aL - bR) / p ≤ k ∧ k ≤ (aR - bL) / p := by
  constructor
  · have := (floor_bounds (a := aL - bR) hp).1
    apply Int.le_of_lt_add_one
    apply Int.lt_of_mul_lt_mul_left (a := p) _ (Int.le_of_lt hp)
    rw [Int.mul_add, Int.mul_comm p k]; omega
  · have := (floor_bounds (a := aR - bL) hp).2
    apply Int.le_of_lt_add_one
    apply Int.lt_of_mul_lt_mul_left (a := p) _ (Int.le_of_lt hp)
    rw [Int.mul_add, Int.mul_comm p k]; omega
/-- .. and the reference's. -/
theorem range_ref {aL aR bL bR p k : Int} (hp : 0 < p) (ha : aR - aL ≤ p) (hb : bR - bL ≤ p) (h1 : bL + k * p < aR) (h2 : aL < bR + k * p) : (aL - bL).tdiv p - 2 ≤ k ∧ k ≤ (aL - bL).tdiv p + 2 := by
  have e := Int.mul_tdiv_add_tmod (aL - bL) p
  have m1 := Int.tmod_lt_of_pos (aL - bL) hp
  have m2 : -p < (aL - bL).tmod p := by
    have := Int.tmod_lt_of_pos (-(aL - bL)) hp
    rw [Int.neg_tmod] at this
    omega
  generalize (aL - bL).tdiv p = q at *
  generalize (aL - bL).tmod p = r at *
  constructor
  · apply Int.le_of_lt_add_one
    apply Int.lt_of_mul_lt_mul_left (a := p) _ (Int.le_of_lt hp)
    rw [Int.mul_add, Int.mul_comm p k, Int.mul_sub]; omega
  · apply Int.le_of_lt_add_one
    apply Int.lt_of_mul_lt_mul_left (a := p) _ (Int.le_of_lt hp)
    rw [Int.mul_add, Int.mul_comm p k, Int.mul_add]; omega
end Geo
namespace Go.Proofs.YtaihplgfbepgpaaGreatDoor
open Go.RowKit Ar

/-- The width of a cell. -/
def wid (l : List Pl) : Int := (bbox l).2.1 - (bbox l).1
/-- Where the program's sum begins, and how many numbers it has. -/
def loP (la lb : List Pl) (p : Int) : Int := ((bbox la).1 - (bbox lb).2.1) / p
def hiP (la lb : List Pl) (p : Int) : Int := ((bbox la).2.1 - (bbox lb).1) / p
/-- What two cells have in common around a cylinder: the program's sum. -/
def rndQ (la lb : List Pl) (p : Int) : Rat := if p = 0 then commonQ la lb 0 else Geo.sumI (loP la lb p) (fun k => commonQ la lb (k * p)) (hiP la lb p + 1 - loP la lb p).toNat
def nearR (la lb : List Pl) (p : Int) : Int := ((bbox la).1 - (bbox lb).1).tdiv p
/-- .. the reference's. -/
noncomputable def rrndQ (la lb : List Pl) (p : Int) : Rat := if p = 0 then rcommonQ la lb 0 else Geo.sumI (nearR la lb p - 2) (fun k => rcommonQ la lb (k * p)) 5
theorem common_range {la lb : List Pl} {dx : Int} (h : commonQ la lb dx ≠ 0) : (bbox lb).1 + dx < (bbox la).2.1 ∧ (bbox la).1 < (bbox lb).2.1 + dx := by
  unfold commonQ at h
  by_cases hb : apartB (bbox la) (shiftB (bbox lb) dx)
  · rw [if_pos hb] at h; exact absurd rfl h
  · unfold apartB shiftB at hb
    simp only [not_or] at hb
    omega
theorem box_order {l : List Pl} (h : 0 < l.length) : (bbox l).1 ≤ (bbox l).2.1 := by
  obtain ⟨h1, h2, h3, h4⟩ := bbox_of h
  grind
theorem rndQ_ref {la lb : List Pl} (ka : validC la) (kb : validC lb) {p : Int} (hp : 0 ≤ p) (wa : p = 0 ∨ wid la ≤ p) (wb : p = 0 ∨ wid lb ≤ p) : rrndQ la lb p = rndQ la lb p := by
  unfold rrndQ rndQ
  split
  · exact rcommon_eq ka kb 0
  · rename_i h0
    have hp' : 0 < p := by omega
    have hwa : wid la ≤ p := by omega
    have hwb : wid lb ≤ p := by omega
    have e : (fun k => rcommonQ la lb (k * p)) = fun k => commonQ la lb (k * p) := funext fun k => rcommon_eq ka kb _
    rw [e]
    unfold wid at hwa hwb
    refine Geo.sumI_eq (fun k hk => ?_) (fun k hk => ?_)
    · obtain ⟨h1, h2⟩ := common_range hk
      have := Geo.range_ref hp' hwa hwb h1 h2
      unfold nearR
      omega
    · obtain ⟨h1, h2⟩ := common_range hk
      have := Geo.range_prog hp' h1 h2
      unfold loP hiP
      omega
theorem commonQ_right {la lb : List Pl} (hb : 0 < lb.length) (d dx : Int) : commonQ la (mvd lb d 0) dx = commonQ la lb (dx + d) := by
  have e1 : shiftB (bbox (mvd lb d 0)) dx = shiftB (bbox lb) (dx + d) := by
    rw [bbox_mvd hb]
    unfold moveB shiftB
    simp only [Int.add_zero, Prod.mk.injEq, and_true]
    omega
  have e2 : poly (mvd lb d 0) dx = poly lb (dx + d) := by
    unfold poly mvd qp
    rw [List.map_map]
    apply List.map_congr_left
    intro x _
    simp only [Function.comp, Int.add_zero, Prod.mk.injEq, and_true]
    rw [show x.1 + d + dx = x.1 + (dx + d) by omega]
  unfold commonQ
  rw [e1, e2, mvd_len]
theorem rndQ_moved {la lb : List Pl} (hb : 0 < lb.length) {p : Int} (hp : 0 < p) : rndQ la (mvd lb p 0) p = rndQ la lb p := by
  unfold rndQ
  rw [if_neg (by omega), if_neg (by omega)]
  have e : (fun k => commonQ la (mvd lb p 0) (k * p)) = fun k => (fun k => commonQ la lb (k * p)) (k + 1) := funext fun k => by
    show _ = commonQ la lb ((k + 1) * p)
    rw [commonQ_right hb, Int.add_mul, Int.one_mul]
  rw [e]
  have sh := Geo.sumI_shift (fun k => commonQ la lb (k * p)) (loP la (mvd lb p 0) p) 1 (hiP la (mvd lb p 0) p + 1 - loP la (mvd lb p 0) p).toNat
  refine sh.trans ?_
  have el : loP la (mvd lb p 0) p + 1 = loP la lb p := by
    unfold loP
    rw [bbox_mvd hb]
    unfold moveB
    simp only
    rw [show (bbox la).1 - ((bbox lb).2.1 + p) = (bbox la).1 - (bbox lb).2.1 + (-1) * p by omega, Int.add_mul_ediv_right _ _ (by omega)]
    omega
  have eh : hiP la (mvd lb p 0) p + 1 = hiP la lb p := by
    unfold hiP
    rw [bbox_mvd hb]
    unfold moveB
    simp only
    rw [show (bbox la).2.1 - ((bbox lb).1 + p) = (bbox la).2.1 - (bbox lb).1 + (-1) * p by omega, Int.add_mul_ediv_right _ _ (by omega)]
    omega
  rw [el, eh]
  congr 1
  omega
theorem wid_mvd {lb : List Pl} (hb : 0 < lb.length) (d : Int) : wid (mvd lb d 0) = wid lb := by
  unfold wid
  rw [bbox_mvd hb]
  unfold moveB
  simp only
  omega
theorem common_small {la lb : List Pl} (ka : validC la) (kb : validC lb) {dx : Int} (hdx : -100000000 ≤ dx ∧ dx ≤ 100000000) : sz (commonQ la lb dx) ≤ 1000000001 := by
  rw [← rcommon_eq ka kb]
  exact rcommonQ_sz ka kb hdx
theorem sumI_sz {c : Int → Rat} {lo : Int} {K : Nat} : ∀ n : Nat, (∀ k, lo ≤ k → k < lo + n → sz (c k) ≤ K) → sz (Geo.sumI lo c n) ≤ n * (K + 1) + 1
  | 0, _ => by
    have := sz_small 0 (by decide)
    have e0 : ((0 : Int) : Rat) = 0 := rfl
    rw [e0] at this
    show sz 0 ≤ _
    omega
  | n + 1, h => by
    show sz (Geo.sumI lo c n + c (lo + n)) ≤ _
    have h1 := sz_add (Geo.sumI lo c n) (c (lo + n))
    have h2 := sumI_sz n (fun k h1 h2 => h k h1 (by omega))
    have h3 := h (lo + n) (by omega) (by omega)
    rw [Nat.add_mul]
    omega
/-- The program's range: at most five numbers. -/
theorem lo_hi {la lb : List Pl} {p : Int} (hp : 0 < p) (wa : wid la ≤ p) (wb : wid lb ≤ p) : hiP la lb p ≤ loP la lb p + 3 := by
  unfold wid at wa wb
  have h1 := (Geo.floor_bounds (a := (bbox la).1 - (bbox lb).2.1) hp).2
  have h2 := (Geo.floor_bounds (a := (bbox la).2.1 - (bbox lb).1) hp).1
  unfold hiP loP
  apply Int.le_of_lt_add_one
  apply Int.lt_of_mul_lt_mul_left (a := p) _ (Int.le_of_lt hp)
  rw [Int.mul_add, Int.mul_add]
  omega
theorem lo_in {la lb : List Pl} (ka : validC la) (kb : validC lb) {p : Int} (hp : 0 < p) (hp2 : p ≤ 1048576) : (-4000000 ≤ loP la lb p ∧ loP la lb p ≤ 4000000) ∧ (-4000000 ≤ hiP la lb p ∧ hiP la lb p ≤ 4000000) ∧ ∀ k, loP la lb p ≤ k → k ≤ hiP la lb p + 1 → -10000000 ≤ k * p ∧ k * p ≤ 10000000 := by
  obtain ⟨ia1, ia2, _⟩ := bbox_in (l := la) (by have := ka.1; omega) ka.2.2.1
  obtain ⟨ib1, ib2, _⟩ := bbox_in (l := lb) (by have := kb.1; omega) kb.2.2.1
  have f1 := Geo.floor_bounds (a := (bbox la).1 - (bbox lb).2.1) hp
  have f2 := Geo.floor_bounds (a := (bbox la).2.1 - (bbox lb).1) hp
  have g : ∀ k : Int, -3145728 ≤ p * k → p * k ≤ 3145728 → -4000000 ≤ k ∧ k ≤ 4000000 := fun k h1 h2 => by
    constructor
    · by_cases h : k < (-4000000)
      · have := Int.mul_le_mul_of_nonneg_left (show k ≤ -4000000 by omega) (Int.le_of_lt hp)
        omega
      · omega
    · by_cases h : 4000000 < k
      · have := Int.mul_le_mul_of_nonneg_left (show 4000000 ≤ k by omega) (Int.le_of_lt hp)
        omega
      · omega
  unfold loP hiP
  refine ⟨g _ (by omega) (by omega), g _ (by omega) (by omega), fun k h1 h2 => ?_⟩
  have m1 := Int.mul_le_mul_of_nonneg_left h1 (Int.le_of_lt hp)
  have m2 := Int.mul_le_mul_of_nonneg_left h2 (Int.le_of_lt hp)
  rw [Int.mul_add] at m2
  rw [Int.mul_comm k p]
  omega
theorem near_in {la lb : List Pl} (ka : validC la) (kb : validC lb) {p : Int} (hp : 0 < p) (hp2 : p ≤ 1048576) : (-4000000 ≤ nearR la lb p ∧ nearR la lb p ≤ 4000000) ∧ ∀ k, nearR la lb p - 2 ≤ k → k ≤ nearR la lb p + 3 → -10000000 ≤ k * p ∧ k * p ≤ 10000000 := by
  obtain ⟨ia1, ia2, _⟩ := bbox_in (l := la) (by have := ka.1; omega) ka.2.2.1
  obtain ⟨ib1, ib2, _⟩ := bbox_in (l := lb) (by have := kb.1; omega) kb.2.2.1
  unfold nearR
  have e := Int.mul_tdiv_add_tmod ((bbox la).1 - (bbox lb).1) p
  have m1 := Int.tmod_lt_of_pos ((bbox la).1 - (bbox lb).1) hp
  have m2 : -p < ((bbox la).1 - (bbox lb).1).tmod p := by
    have := Int.tmod_lt_of_pos (-((bbox la).1 - (bbox lb).1)) hp
    rw [Int.neg_tmod] at this
    omega
  generalize ((bbox la).1 - (bbox lb).1).tdiv p = q at *
  generalize ((bbox la).1 - (bbox lb).1).tmod p = r at *
  refine ⟨⟨?_, ?_⟩, fun k h1 h2 => ?_⟩
  · by_cases h : q < (-4000000)
    · have := Int.mul_le_mul_of_nonneg_left (show q ≤ -4000000 by omega) (Int.le_of_lt hp)
      omega
    · omega
  · by_cases h : 4000000 < q
    · have := Int.mul_le_mul_of_nonneg_left (show 4000000 ≤ q by omega) (Int.le_of_lt hp)
      omega
    · omega
  · have n1 := Int.mul_le_mul_of_nonneg_left h1 (Int.le_of_lt hp)
    have n2 := Int.mul_le_mul_of_nonneg_left h2 (Int.le_of_lt hp)
    rw [Int.mul_add] at n2
    rw [Int.mul_sub] at n1
    rw [Int.mul_comm k p]
    omega
/-- The size of the program's sum, as far as it goes. -/
theorem part_sz {la lb : List Pl} (ka : validC la) (kb : validC lb) {p : Int} (hp : 0 < p) (hp2 : p ≤ 1048576) (wa : wid la ≤ p) (wb : wid lb ≤ p) (n : Nat) (hn : (n : Int) ≤ hiP la lb p + 1 - loP la lb p) : sz (Geo.sumI (loP la lb p) (fun k => commonQ la lb (k * p)) n) ≤ 6000000000 := by
  have h4 := lo_hi hp wa wb
  have hin := (lo_in ka kb hp hp2).2.2
  have := sumI_sz (c := fun k => commonQ la lb (k * p)) (lo := loP la lb p) (K := 1000000001) n (fun k h1 h2 => common_small ka kb (by have := hin k h1 (by omega); omega))
  have h5 : n ≤ 5 := by omega
  have h6 : n * (1000000001 + 1) ≤ 5 * (1000000001 + 1) := Nat.mul_le_mul_right _ h5
  omega
theorem rpart_sz {la lb : List Pl} (ka : validC la) (kb : validC lb) {p : Int} (hp : 0 < p) (hp2 : p ≤ 1048576) (n : Nat) (hn : n ≤ 5) : sz (Geo.sumI (nearR la lb p - 2) (fun k => rcommonQ la lb (k * p)) n) ≤ 6000000000 := by
  have hin := (near_in ka kb hp hp2).2
  have := sumI_sz (c := fun k => rcommonQ la lb (k * p)) (lo := nearR la lb p - 2) (K := 1000000001) n (fun k h1 h2 => rcommonQ_sz ka kb (by have := hin k h1 (by omega); omega))
  have h6 : n * (1000000001 + 1) ≤ 5 * (1000000001 + 1) := Nat.mul_le_mul_right _ hn
  omega
end Go.Proofs.YtaihplgfbepgpaaGreatDoor

namespace Go.Proofs.YtaihplgfbepgpaaGreatDoor
open Go.RowKit Ar

theorem floor_t {a b : Int} (hb : 0 < b) : (a.tmod b < 0 → a / b = a.tdiv b - 1) ∧ (0 ≤ a.tmod b → a / b = a.tdiv b) := by
  have e := Int.mul_tdiv_add_tmod a b
  have m1 := Int.tmod_lt_of_pos a hb
  have m2 : -b < a.tmod b := by
    have := Int.tmod_lt_of_pos (-a) hb
    rw [Int.neg_tmod] at this
    omega
  have h1 := Int.mul_ediv_add_emod a b
  have h2 := Int.emod_nonneg a (by omega : b ≠ 0)
  have h3 := Int.emod_lt_of_pos a hb
  generalize a.tdiv b = q at *
  generalize a.tmod b = r at *
  generalize a / b = f at *
  generalize a % b = g at *
  have up : ∀ x y : Int, b * x < b * y + b → x ≤ y := fun x y h => by
    apply Int.le_of_lt_add_one
    apply Int.lt_of_mul_lt_mul_left (a := b) _ (Int.le_of_lt hb)
    rw [Int.mul_add]; omega
  constructor
  · intro hr
    have a1 := up f (q - 1) (by rw [Int.mul_sub]; omega)
    have a2 := up (q - 1) f (by rw [Int.mul_sub]; omega)
    omega
  · intro hr
    have a1 := up f q (by omega)
    have a2 := up q f (by omega)
    omega

set_option maxRecDepth 100000 in
theorem floor_any (a b : Int) (w : World) (hb : 0 < b) (hf : -1000000000 ≤ a / b ∧ a / b ≤ 1000000000) :
    Calls Tryz.prog 82 #[.int .i64 a, .int .i64 b] w fun e w' => Below w.heap.size w w' ∧ e = .returned (.int .i64 (a / b)) := by
  have ft := floor_t (a := a) hb
  have n0 : ¬ b = 0 := by omega
  obtain ⟨q, hq⟩ : ∃ q, a.tdiv b = q := ⟨_, rfl⟩
  obtain ⟨r, hr⟩ : ∃ r, a.tmod b = r := ⟨_, rfl⟩
  rw [hq, hr] at ft
  by_cases h : r < 0
  · have f1 := ft.1 h
    rw [f1] at hf ⊢
    have ww1 : IntKind.i64.wrap q = q := IntWalk.i64_in _ (by omega)
    have ww2 : IntKind.i64.wrap (q - 1) = q - 1 := IntWalk.i64_in _ (by omega)
    clear f1 ft hf
    go_enter Tryz.func82, Tryz.ntmps82
    go_wp2
    go_ret
    exact ⟨Below.refl _ _, rfl⟩
  · have f1 := ft.2 (by omega)
    rw [f1] at hf ⊢
    have ww1 : IntKind.i64.wrap q = q := IntWalk.i64_in _ (by omega)
    clear f1 ft hf
    go_enter Tryz.func82, Tryz.ntmps82
    go_wp2
    go_ret
    exact ⟨Below.refl _ _, rfl⟩

section
variable {w : World} {b b2 : Nat} {x1 x2 x3 x4 y1 y2 y3 y4 : Int}
/-- Two boxes that are made side by side. -/
theorem boxA : Bk ((w.alloc (.cells #[.int .i64 x1, .int .i64 x2, .int .i64 x3, .int .i64 x4] 100)).alloc (.cells #[.int .i64 y1, .int .i64 y2, .int .i64 y3, .int .i64 y4] 100)) w.heap.size 100 #[.int .i64 x1, .int .i64 x2, .int .i64 x3, .int .i64 x4] ∧
    Bk ((w.alloc (.cells #[.int .i64 x1, .int .i64 x2, .int .i64 x3, .int .i64 x4] 100)).alloc (.cells #[.int .i64 y1, .int .i64 y2, .int .i64 y3, .int .i64 y4] 100)) (w.heap.size + 1) 100 #[.int .i64 y1, .int .i64 y2, .int .i64 y3, .int .i64 y4] :=
  ⟨(Bk.new _ _ _).alloc _, Bk.new2 _ _ _ _⟩
theorem boxC (kA : Bk w b 100 #[.int .i64 0, .int .i64 0, .int .i64 0, .int .i64 0]) : Bk (((((w.setCell ⟨b, 0, none⟩ (.int .i64 x1)).setCell ⟨b, 1, none⟩ (.int .i64 x2)).setCell ⟨b, 2, none⟩ (.int .i64 x3)).setCell ⟨b, 3, none⟩ (.int .i64 x4)).alloc (.cells #[.int .i64 y1, .int .i64 y2, .int .i64 y3, .int .i64 y4] 100)) b 100 #[.int .i64 x1, .int .i64 x2, .int .i64 x3, .int .i64 x4] ∧
    Bk (((((w.setCell ⟨b, 0, none⟩ (.int .i64 x1)).setCell ⟨b, 1, none⟩ (.int .i64 x2)).setCell ⟨b, 2, none⟩ (.int .i64 x3)).setCell ⟨b, 3, none⟩ (.int .i64 x4)).alloc (.cells #[.int .i64 y1, .int .i64 y2, .int .i64 y3, .int .i64 y4] 100)) w.heap.size 100 #[.int .i64 y1, .int .i64 y2, .int .i64 y3, .int .i64 y4] := by
  have kN := Bk.new (set4 w b (.int .i64 x1) (.int .i64 x2) (.int .i64 x3) (.int .i64 x4)) 100 #[.int .i64 y1, .int .i64 y2, .int .i64 y3, .int .i64 y4]
  have e : (set4 w b (.int .i64 x1) (.int .i64 x2) (.int .i64 x3) (.int .i64 x4)).heap.size = w.heap.size := by simp [set4, World.setCell]
  rw [e] at kN
  exact ⟨(set4_bk kA).alloc _, kN⟩
theorem boxE (kA : Bk w b 100 #[.int .i64 0, .int .i64 0, .int .i64 0, .int .i64 0]) (kB : Bk w b2 100 #[.int .i64 0, .int .i64 0, .int .i64 0, .int .i64 0]) (hne : b ≠ b2) : Bk ((((((((w.setCell ⟨b, 0, none⟩ (.int .i64 x1)).setCell ⟨b, 1, none⟩ (.int .i64 x2)).setCell ⟨b, 2, none⟩ (.int .i64 x3)).setCell ⟨b, 3, none⟩ (.int .i64 x4)).setCell ⟨b2, 0, none⟩ (.int .i64 y1)).setCell ⟨b2, 1, none⟩ (.int .i64 y2)).setCell ⟨b2, 2, none⟩ (.int .i64 y3)).setCell ⟨b2, 3, none⟩ (.int .i64 y4)) b 100 #[.int .i64 x1, .int .i64 x2, .int .i64 x3, .int .i64 x4] ∧
    Bk ((((((((w.setCell ⟨b, 0, none⟩ (.int .i64 x1)).setCell ⟨b, 1, none⟩ (.int .i64 x2)).setCell ⟨b, 2, none⟩ (.int .i64 x3)).setCell ⟨b, 3, none⟩ (.int .i64 x4)).setCell ⟨b2, 0, none⟩ (.int .i64 y1)).setCell ⟨b2, 1, none⟩ (.int .i64 y2)).setCell ⟨b2, 2, none⟩ (.int .i64 y3)).setCell ⟨b2, 3, none⟩ (.int .i64 y4)) b2 100 #[.int .i64 y1, .int .i64 y2, .int .i64 y3, .int .i64 y4] :=
  ⟨bk_far4 (set4_bk kA) hne, set4_bk (bk_far4 kB (Ne.symm hne))⟩
end

theorem Cm.set3 {w W : World} {ua ub : Value} {ma mb : Bool} (h : Cm w ua ub ma mb W) {b : Nat} (hb : w.heap.size + 1 + 1 < b) (x y z : Value) : Cm w ua ub ma mb (set3 W b x y z) :=
  ⟨set3_below h.below (by omega), bk_far3 h.ka (by omega), bk_far3 h.kb (by omega), bk_far3 h.kr (by omega)⟩

set_option maxRecDepth 100000 in
set_option maxHeartbeats 6400000 in
theorem round_any (la lb : List Pl) (ma mb : Bool) (va vb : Value) (p : Int) (w : World) (ha : IsC w w.heap.size va la ma) (hb : IsC w w.heap.size vb lb mb) (ka : validC la) (kb : validC lb) (hp : 0 < p) (hp2 : p ≤ 1048576) (wa : wid la ≤ p) (wb : wid lb ≤ p) :
    Calls Tryz.prog 49 #[va, vb, .int .i64 p] w fun e w' => Below w.heap.size w w' ∧ ∃ v, e = .returned v ∧ IsF w' w'.heap.size v (rndQ la lb p) := by
  obtain ⟨A, ca, rfl⟩ := ha.form
  obtain ⟨A', cb, rfl⟩ := hb.form
  have a3 := ka.1
  have a8 := ka.2.1
  have b3 := kb.1
  have b8 := kb.2.1
  obtain ⟨ia1, ia2, ia3, ia4⟩ := bbox_in (l := la) (by omega) ka.2.2.1
  obtain ⟨ib1, ib2, ib3, ib4⟩ := bbox_in (l := lb) (by omega) kb.2.2.1
  obtain ⟨hlo, hhi, hmul⟩ := lo_in ka kb hp hp2
  have HMUL := Lib.hid hmul
  have HSZ := Lib.hid (part_sz ka kb hp hp2 wa wb)
  have HR : Hid (rndQ la lb p = Geo.sumI (loP la lb p) (fun k => commonQ la lb (k * p)) (hiP la lb p + 1 - loP la lb p).toNat) := by
    show _ = _
    unfold rndQ
    rw [if_neg (by omega)]
  have HXA : Hid (((bbox la).1, (bbox la).2.1, (bbox la).2.2.1, (bbox la).2.2.2) = bbox la) := rfl
  have HXB : Hid (((bbox lb).1, (bbox lb).2.1, (bbox lb).2.2.1, (bbox lb).2.2.2) = bbox lb) := rfl
  have ARA := Lib.hid (fun X (h : IsC X X.heap.size (.agg #[.slice A la.length ca, .bool ma]) la ma) => around_any la ma _ X h (by omega) (by omega))
  have ARB := Lib.hid (fun X (h : IsC X X.heap.size (.agg #[.slice A' lb.length cb, .bool mb]) lb mb) => around_any lb mb _ X h (by omega) (by omega))
  have HLO : Hid (((bbox la).1 - (bbox lb).2.1) / p = loP la lb p) := rfl
  have HHI : Hid (((bbox la).2.1 - (bbox lb).1) / p = hiP la lb p) := rfl
  clear hmul wa wb
  unfold bv at ARA ARB
  generalize loP la lb p = lo at *
  generalize hiP la lb p = hi at *
  generalize (bbox la).1 = x1 at *
  generalize (bbox la).2.1 = x2 at *
  generalize (bbox la).2.2.1 = x3 at *
  generalize (bbox la).2.2.2 = x4 at *
  generalize (bbox lb).1 = y1 at *
  generalize (bbox lb).2.1 = y2 at *
  generalize (bbox lb).2.2.1 = y3 at *
  generalize (bbox lb).2.2.2 = y4 at *
  have ww1 : IntKind.i64.wrap (x1 - y2) = x1 - y2 := IntWalk.i64_in _ (by omega)
  have ww2 : IntKind.i64.wrap (x2 - y1) = x2 - y1 := IntWalk.i64_in _ (by omega)
  have FLA := Lib.hid (fun X => floor_any (x1 - y2) p X hp (by rw [HLO.out]; omega))
  have FLB := Lib.hid (fun X => floor_any (x2 - y1) p X hp (by rw [HHI.out]; omega))
  rw [HLO.out] at FLA
  rw [HHI.out] at FLB
  clear HXA HXB
  go_enter Tryz.func49, Tryz.ntmps49
  go_wp2_with fail
  have c0 := Cm.start w (.slice A la.length ca) (.slice A' lb.length cb) ma mb
  generalize (((w.alloc (.cells #[.slice A la.length ca, .bool ma] 33)).alloc (.cells #[.slice A' lb.length cb, .bool mb] 33)).alloc (.cells #[.bool false, .slice none 0 0, .slice none 0 0] 56)) = W at *
  have KK : Hid (∀ X, Below W.heap.size W X → ((X.cell? ⟨w.heap.size, 0, none⟩ = some (.slice A la.length ca) ∧ X.cell? ⟨w.heap.size, 1, none⟩ = some (.bool ma)) ∧ X.cell? ⟨w.heap.size + 1, 0, none⟩ = some (.slice A' lb.length cb) ∧ X.cell? ⟨w.heap.size + 1, 1, none⟩ = some (.bool mb))) := fun X h => ⟨bk2 (c0.next h).ka, bk2 (c0.next h).kb⟩
  have C1 := Lib.hid (fun X (h : Below W.heap.size W X) => ARA.out X ((ha.below (c0.next h).below).more (c0.next h).below.size))
  have C2 := Lib.hid (fun X (h : Below W.heap.size W X) => ARB.out X ((hb.below (c0.next h).below).more (c0.next h).below.size))
  clear ARA ARB
  obtain ⟨⟨a0, a1⟩, b0, b1⟩ := KK.out W (Below.refl _ _)
  have bb0 := Below.refl W.heap.size W
  have hbs0 := bb0.size
  go_cut [7, 8] from 11 to 42 (fun x y wx => ∃ bp bq, x = .pointer (some ⟨bp, 0, none⟩) ∧ y = .pointer (some ⟨bq, 0, none⟩) ∧ Bk wx bp 100 #[.int .i64 x1, .int .i64 x2, .int .i64 x3, .int .i64 x4] ∧ Bk wx bq 100 #[.int .i64 y1, .int .i64 y2, .int .i64 y3, .int .i64 y4] ∧ Below W.heap.size W wx ∧ W.heap.size ≤ bp ∧ W.heap.size ≤ bq)
  case first =>
    go_region_held3 (fun X => (X.cell? ⟨w.heap.size, 0, none⟩ = some (.slice A la.length ca) ∧ X.cell? ⟨w.heap.size, 1, none⟩ = some (.bool ma)) ∧ X.cell? ⟨w.heap.size + 1, 0, none⟩ = some (.slice A' lb.length cb) ∧ X.cell? ⟨w.heap.size + 1, 1, none⟩ = some (.bool mb))
      (((with_reducible refine KK.out _ ?_); repeat' (first | (with_reducible exact bb2) | (with_reducible exact bb1) | (with_reducible exact bb0) | ((with_reducible refine Below.setCell ?_ ?_ _); rotate_left; (focus first | omega | (simp; done) | (simp; omega) | (unfold World.setCell; simp; omega))) | ((with_reducible refine Below.alloc ?_ ?_ _); rotate_left; (focus first | omega | (simp; done) | (simp; omega) | (unfold World.setCell; simp; omega))) | (with_reducible refine Below.drew ?_))))
      (first
        | (go_at_call 66; (with_reducible refine (C1.out _ ?_).mono ?_); (focus repeat' (first | (with_reducible exact bb0) | ((with_reducible refine Below.setCell ?_ ?_ _); rotate_left; (focus first | omega | (simp; done) | (simp; omega) | (unfold World.setCell; simp; omega))) | ((with_reducible refine Below.alloc ?_ ?_ _); rotate_left; (focus first | omega | (simp; done) | (simp; omega) | (unfold World.setCell; simp; omega))) | (with_reducible refine Below.drew ?_))); rintro e w1 ⟨hb1, rfl⟩; have bb1 : Below W.heap.size W w1 := below_step (by repeat' (first | (with_reducible exact bb0) | ((with_reducible refine Below.setCell ?_ ?_ _); rotate_left; (focus first | omega | (simp; done) | (simp; omega) | (unfold World.setCell; simp; omega))) | ((with_reducible refine Below.alloc ?_ ?_ _); rotate_left; (focus first | omega | (simp; done) | (simp; omega) | (unfold World.setCell; simp; omega))) | (with_reducible refine Below.drew ?_))) hb1; have hbs1 := bb1.size; (first | ((with_reducible have ka := ((Bk.new W 100 #[.int .i64 0, .int .i64 0, .int .i64 0, .int .i64 0]).alloc (.cells #[.int .i64 0, .int .i64 0, .int .i64 0, .int .i64 0] 100)).drew.next' hb1); (with_reducible have kb := (Bk.new2 W (.cells #[.int .i64 0, .int .i64 0, .int .i64 0, .int .i64 0] 100) 100 #[.int .i64 0, .int .i64 0, .int .i64 0, .int .i64 0]).drew.next' hb1); have la := ka.lt) | ((with_reducible have ka := (Bk.new W 100 #[.int .i64 0, .int .i64 0, .int .i64 0, .int .i64 0]).drew.next' hb1); have la := ka.lt) | skip))
        | (go_at_call 66; (with_reducible refine (C2.out _ ?_).mono ?_); (focus repeat' (first | (with_reducible exact bb1) | (with_reducible exact bb0) | ((with_reducible refine Below.setCell ?_ ?_ _); rotate_left; (focus first | omega | (simp; done) | (simp; omega) | (unfold World.setCell; simp; omega))) | ((with_reducible refine Below.alloc ?_ ?_ _); rotate_left; (focus first | omega | (simp; done) | (simp; omega) | (unfold World.setCell; simp; omega))) | (with_reducible refine Below.drew ?_))); rintro e w2 ⟨hb2, rfl⟩; have bb2 : Below W.heap.size W w2 := below_step (by repeat' (first | (with_reducible exact bb1) | (with_reducible exact bb0) | ((with_reducible refine Below.setCell ?_ ?_ _); rotate_left; (focus first | omega | (simp; done) | (simp; omega) | (unfold World.setCell; simp; omega))) | ((with_reducible refine Below.alloc ?_ ?_ _); rotate_left; (focus first | omega | (simp; done) | (simp; omega) | (unfold World.setCell; simp; omega))) | (with_reducible refine Below.drew ?_))) hb2; have hbs2 := bb2.size; (first | ((with_reducible have kA := ka.next' hb2); (with_reducible have kB := kb.next' hb2)) | (with_reducible have kA := ka.next' hb2) | ((with_reducible have kA := (ka.alloc (.cells #[.int .i64 0, .int .i64 0, .int .i64 0, .int .i64 0] 100)).next' hb2); (with_reducible have kB := (Bk.new w1 100 #[.int .i64 0, .int .i64 0, .int .i64 0, .int .i64 0]).next' hb2)) | ((with_reducible have kA := ((Bk.new w1 100 #[.int .i64 0, .int .i64 0, .int .i64 0, .int .i64 0]).alloc (.cells #[.int .i64 0, .int .i64 0, .int .i64 0, .int .i64 0] 100)).next' hb2); (with_reducible have kB := (Bk.new2 w1 (.cells #[.int .i64 0, .int .i64 0, .int .i64 0, .int .i64 0] 100) 100 #[.int .i64 0, .int .i64 0, .int .i64 0, .int .i64 0]).next' hb2)) | (with_reducible have kA := (Bk.new w1 100 #[.int .i64 0, .int .i64 0, .int .i64 0, .int .i64 0]).next' hb2) | skip); (first | (obtain ⟨i0, i1, i2, i3⟩ := bk4 kA; have f0 := kA.frozen 0; have f1 := kA.frozen 1; have f2 := kA.frozen 2; have f3 := kA.frozen 3; have lA := kA.lt; obtain ⟨j0, j1', j2, j3⟩ := bk4 kB; have g0 := kB.frozen 0; have g1 := kB.frozen 1; have g2 := kB.frozen 2; have g3 := kB.frozen 3; have lB := kB.lt) | (obtain ⟨i0, i1, i2, i3⟩ := bk4 kA; have f0 := kA.frozen 0; have f1 := kA.frozen 1; have f2 := kA.frozen 2; have f3 := kA.frozen 3; have lA := kA.lt) | skip)))
    all_goals (go_wp2_with fail)
    all_goals go_meet
    all_goals
      refine ⟨_, _, rfl, rfl, ?_, ?_, ?_, by omega, by omega⟩
      · first | (with_reducible exact boxA.1) | (with_reducible exact boxA.2) | (with_reducible exact (boxC kA).1) | (with_reducible exact (boxC kA).2) | (with_reducible exact (boxE kA kB (by omega)).1) | (with_reducible exact (boxE kB kA (by omega)).1) | (with_reducible exact (boxE kA kB (by omega)).2) | (with_reducible exact (boxE kB kA (by omega)).2)
      · first | (with_reducible exact boxA.2) | (with_reducible exact boxA.1) | (with_reducible exact (boxC kA).2) | (with_reducible exact (boxC kA).1) | (with_reducible exact (boxE kA kB (by omega)).2) | (with_reducible exact (boxE kB kA (by omega)).2) | (with_reducible exact (boxE kA kB (by omega)).1) | (with_reducible exact (boxE kB kA (by omega)).1)
      · repeat' (first | (with_reducible exact bb2) | (with_reducible exact bb1) | (with_reducible exact bb0) | ((with_reducible refine Below.setCell ?_ ?_ _); rotate_left; (focus first | omega | (simp; done) | (simp; omega) | (unfold World.setCell; simp; omega))) | ((with_reducible refine Below.alloc ?_ ?_ _); rotate_left; (focus first | omega | (simp; done) | (simp; omega) | (unfold World.setCell; simp; omega))) | (with_reducible refine Below.drew ?_))
  case rest =>
  obtain ⟨bp, bq, rfl, rfl, kp, kq, hbc, hbp, hbq⟩ := hcut
  have c1 := c0.next hbc
  have hw1 := c0.kr.lt
  clear KK C1 C2 bb0 hbs0 a0 a1 b0 b1
  have hcs := hbc.size
  go_wp2_with fail
  refine (fint_any 0 _ (by omega)).mono ?_
  rintro e w1 ⟨hb1, f1, rfl, hf1⟩
  obtain ⟨s1, A1, l1, e1, A1', l1', e1', rfl⟩ := hf1.form
  have c2 := c1.next hb1
  have kp2 := kp.next' hb1
  have kq2 := kq.next' hb1
  have hs1 := hb1.size
  have lp := kp2.lt
  have lq := kq2.lt
  obtain ⟨i0, i1, i2, i3⟩ := bk4 kp2
  obtain ⟨j0, j1, j2, j3⟩ := bk4 kq2
  clear c0 c1 kp kq hb1
  go_wp2_with fail
  obtain ⟨bs, hbs⟩ : ∃ bs, bs = w1.heap.size := ⟨_, rfl⟩
  have hbA := below_alloc w1 (.cells #[.bool s1, .slice A1 l1 e1, .slice A1' l1' e1'] 56)
  have c3 := c2.next hbA
  have kp3 := kp2.next' hbA
  have kq3 := kq2.next' hbA
  have ks3 := Bk.new w1 56 #[.bool s1, .slice A1 l1 e1, .slice A1' l1' e1']
  have fs3 := hf1.next hbA
  have hbsw : w.heap.size + 1 + 1 < bs := by omega
  have hpne : bp ≠ bs := by omega
  have hqne : bq ≠ bs := by omega
  rw [← hbs] at ks3 ⊢
  generalize (w1.alloc (.cells #[.bool s1, .slice A1 l1 e1, .slice A1' l1' e1'] 56)) = w2 at *
  clear hbA c2 kp2 kq2 i0 i1 i2 i3 j0 j1 j2 j3 hf1 hbs lp lq hbp hbq hs1 hcs hbc
  refine (FLA.out w2).mono ?_
  rintro e w3 ⟨hb3, rfl⟩
  have c4 := c3.next hb3
  have kp4 := kp3.next' hb3
  have kq4 := kq3.next' hb3
  have ks4 := ks3.next' hb3
  have fs4 := fs3.next hb3
  clear FLA c3 kp3 kq3 ks3 fs3 hb3
  go_wp2_with fail
  go_loopw [10] (fun x wr => ∃ k : Nat, k ≤ (hi + 1 - lo).toNat ∧ x = .int .i64 (lo + k) ∧ Cm w (.slice A la.length ca) (.slice A' lb.length cb) ma mb wr ∧ Bk wr bp 100 #[.int .i64 x1, .int .i64 x2, .int .i64 x3, .int .i64 x4] ∧ Bk wr bq 100 #[.int .i64 y1, .int .i64 y2, .int .i64 y3, .int .i64 y4] ∧ FracAt wr bs (Geo.sumI lo (fun k => commonQ la lb (k * p)) k)) (fun x _ => (hi + 1 - intOf x).toNat)
  case atStart => exact ⟨0, Nat.zero_le _, by simp, c4, kp4, kq4, _, _, _, _, _, _, _, ks4, fs4⟩
  case round =>
    clear c4 kp4 kq4 ks4 fs4
    obtain ⟨k, hk, rfl, cr, kp, kq, s, B1, n1, e1, B1', n1', e1', kS, fS⟩ := hrel
    obtain ⟨i0, i1, i2, i3⟩ := bk4 kp
    obtain ⟨j0, j1, j2, j3⟩ := bk4 kq
    by_cases hlt : lo + k ≤ hi
    · have HA : Hid (Geo.sumI lo (fun k => commonQ la lb (k * p)) (k + 1) = Geo.sumI lo (fun k => commonQ la lb (k * p)) k + commonQ la lb ((lo + k) * p)) := rfl
      have hm := HMUL.out (lo + k) (by omega) (by omega)
      have hsz := HSZ.out k (by omega)
      have csz := common_small ka kb (dx := (lo + k) * p) (by omega)
      have CM := Lib.hid (fun X (ha : IsC X X.heap.size _ la ma) (hb : IsC X X.heap.size _ lb mb) => common_any la lb ma mb (.agg #[.slice A la.length ca, .bool ma]) (.agg #[.slice A' lb.length cb, .bool mb]) ((lo + k) * p) X ha hb ka kb (by omega))
      generalize Geo.sumI lo (fun k => commonQ la lb (k * p)) k = sm at *
      generalize commonQ la lb ((lo + k) * p) = cq at *
      obtain ⟨dx, hdx⟩ : ∃ dx, (lo + (k : Int)) * p = dx := ⟨_, rfl⟩
      have ww3 : IntKind.i64.wrap ((lo + (k : Int)) * p) = dx := by rw [IntWalk.i64_in _ (by omega)]; exact hdx
      rw [hdx] at CM
      clear hdx
      have ww4 : IntKind.i64.wrap (lo + k + 1) = lo + k + 1 := IntWalk.i64_in _ (by omega)
      go_wp2_with fail
      refine (FLB.out wr).mono ?_
      rintro e w5 ⟨hb5, rfl⟩
      have c5 := cr.next hb5
      have kp5 := kp.next' hb5
      have kq5 := kq.next' hb5
      have kS5 := kS.next' hb5
      have fS5 := fS.next hb5
      clear cr kp kq kS fS hb5 i0 i1 i2 i3 j0 j1 j2 j3
      have ha5 := (ha.below c5.below).more c5.below.size
      have hb5 := (hb.below c5.below).more c5.below.size
      obtain ⟨f0, f1, f2⟩ := bk3 kS5
      obtain ⟨a0, a1⟩ := bk2 c5.ka
      obtain ⟨b0, b1⟩ := bk2 c5.kb
      go_wp2_with fail
      refine wp_region_M 8 (by kernel_rfl) (fun X => (X.cell? ⟨bs, 0, none⟩ = some (.bool s) ∧ X.cell? ⟨bs, 1, none⟩ = some (.slice B1 n1 e1) ∧ X.cell? ⟨bs, 2, none⟩ = some (.slice B1' n1' e1')) ∧ (X.cell? ⟨w.heap.size, 0, none⟩ = some (.slice A la.length ca) ∧ X.cell? ⟨w.heap.size, 1, none⟩ = some (.bool ma)) ∧ X.cell? ⟨w.heap.size + 1, 0, none⟩ = some (.slice A' lb.length cb) ∧ X.cell? ⟨w.heap.size + 1, 1, none⟩ = some (.bool mb)) ⟨⟨f0, f1, f2⟩, ⟨a0, a1⟩, b0, b1⟩ (fun hS0 => ?_)
      clear f0 f1 f2 a0 a1 b0 b1
      refine takeM (i := 0) (v := ?_) rfl (by kernel_rfl) (by decide) (by kernel_rfl) (by kernel_rfl) (by kernel_rfl) (fun _ _ _ h => h) (by rfl) (by assumption) ?_ ?_
      rotate_left
      · intro w hSw; (try dsimp only at hSw); go_simp <;> with_reducible rfl
      try simp only [Act.put, List.setIfInBounds_toArray, List.set_cons_zero, List.set_cons_succ]
      refine takeM (i := 1) (v := ?_) rfl (by kernel_rfl) (by decide) (by kernel_rfl) (by kernel_rfl) (by kernel_rfl) (fun _ _ _ h => h) (by rfl) (by assumption) ?_ ?_
      rotate_left
      · intro w hSw; (try dsimp only at hSw); go_simp <;> with_reducible rfl
      try simp only [Act.put, List.setIfInBounds_toArray, List.set_cons_zero, List.set_cons_succ]
      refine takeM (i := 2) (v := ?_) rfl (by kernel_rfl) (by decide) (by kernel_rfl) (by kernel_rfl) (by kernel_rfl) (fun _ _ _ h => h) (by rfl) (by assumption) ?_ ?_
      rotate_left
      · intro w hSw; (try dsimp only at hSw); go_simp <;> with_reducible rfl
      try simp only [Act.put, List.setIfInBounds_toArray, List.set_cons_zero, List.set_cons_succ]
      refine takeM (i := 3) (v := ?_) rfl (by kernel_rfl) (by decide) (by kernel_rfl) (by kernel_rfl) (by kernel_rfl) (fun _ _ _ h => h) (by rfl) (by assumption) ?_ ?_
      rotate_left
      · intro w hSw; (try dsimp only at hSw); go_simp <;> with_reducible rfl
      try simp only [Act.put, List.setIfInBounds_toArray, List.set_cons_zero, List.set_cons_succ]
      refine takeM (i := 4) (v := ?_) rfl (by kernel_rfl) (by decide) (by kernel_rfl) (by kernel_rfl) (by kernel_rfl) (fun _ _ _ h => h) (by rfl) (by assumption) ?_ ?_
      rotate_left
      · intro w hSw; (try dsimp only at hSw); go_simp <;> with_reducible rfl
      try simp only [Act.put, List.setIfInBounds_toArray, List.set_cons_zero, List.set_cons_succ]
      refine takeM (i := 5) (v := ?_) rfl (by kernel_rfl) (by decide) (by kernel_rfl) (by kernel_rfl) (by kernel_rfl) (fun _ _ _ h => h) (by rfl) (by assumption) ?_ ?_
      rotate_left
      · intro w hSw; (try dsimp only at hSw); go_simp <;> with_reducible rfl
      try simp only [Act.put, List.setIfInBounds_toArray, List.set_cons_zero, List.set_cons_succ]
      clear hS0
      refine stepM (i := 6) rfl (by kernel_rfl) (fun K0 hK0 => ?_)
      go_simp
      refine (CM.out w5.drew ha5 hb5).mono ?_
      rintro e w6 ⟨hb6, v6, rfl, y6⟩
      obtain ⟨t2, A2, l2, c2, A2', l2', c2', rfl⟩ := y6.form
      have c6 := c5.drew.next hb6
      have kp6 := kp5.drew.next' hb6
      have kq6 := kq5.drew.next' hb6
      have kS6 := kS5.drew.next' hb6
      have fS6 := (show IsF w5.drew w5.drew.heap.size _ _ from fS5).next hb6
      have hS2 := And.intro (bk3 kS6) (And.intro (bk2 c6.ka) (bk2 c6.kb))
      have FA := fadd_any _ _ _ _ w6 fS6 y6 (by omega) (by omega)
      clear CM ha5 hb5 c5 kp5 kq5 kS5 fS5 hb6
      dsimp only
      refine hK0.out _ _ (fun _ => hS2) (fun _ => ?_)
      clear hK0 K0
      try simp only [Act.put, List.setIfInBounds_toArray, List.set_cons_zero, List.set_cons_succ]
      refine stepM (i := 7) rfl (by kernel_rfl) (fun K0 hK0 => ?_)
      go_simp
      refine FA.mono ?_
      rintro e w7 ⟨hb7, v7, rfl, y7⟩
      obtain ⟨t3, A3, l3, c3, A3', l3', c3', rfl⟩ := y7.form
      have c7 := c6.next hb7
      have kp7 := kp6.next' hb7
      have kq7 := kq6.next' hb7
      have kS7 := kS6.next' hb7
      have hS3 := And.intro (bk3 kS7) (And.intro (bk2 c7.ka) (bk2 c7.kb))
      obtain ⟨d0, d1, d2⟩ := bk3 kS7
      have g0 := kS7.frozen 0
      have g1 := kS7.frozen 1
      have g2 := kS7.frozen 2
      clear FA hS2 c6 kp6 kq6 kS6 fS6 hb7 y6
      dsimp only
      refine hK0.out _ _ (fun _ => hS3) (fun _ => ?_)
      clear hK0 K0
      try simp only [Act.put, List.setIfInBounds_toArray, List.set_cons_zero, List.set_cons_succ]
      refine stepM (i := 8) rfl (by kernel_rfl) (fun K0 hK0 => ?_)
      go_simp
      refine hK0.out _ _ (fun h => absurd rfl h) (fun _ => ?_)
      clear hK0 K0
      try simp only [Act.put, List.setIfInBounds_toArray, List.set_cons_zero, List.set_cons_succ]
      refine doneM (by kernel_rfl) ?_ _
      have c8 := c7.set3 hbsw (.bool t3) (.slice A3 l3 c3) (.slice A3' l3' c3')
      have kp8 := bk_far3 (x := .bool t3) (y := .slice A3 l3 c3) (z := .slice A3' l3' c3') kp7 hpne
      have kq8 := bk_far3 (x := .bool t3) (y := .slice A3 l3 c3) (z := .slice A3' l3' c3') kq7 hqne
      have kS8 := set3_bk (x := .bool t3) (y := .slice A3 l3 c3) (z := .slice A3' l3' c3') kS7
      have y8 := (y7.set3 kS7 (.bool t3) (.slice A3 l3 c3) (.slice A3' l3' c3')).more (B' := (set3 w7 bs (.bool t3) (.slice A3 l3 c3) (.slice A3' l3' c3')).heap.size) (by rw [set3_size]; exact Nat.le_refl _)
      clear hS3 d0 d1 d2 g0 g1 g2 c7 kp7 kq7 kS7 y7
      unfold set3 at c8 kp8 kq8 kS8 y8
      rw [← HA.out] at y8
      generalize (((w7.setCell ⟨bs, 0, none⟩ (.bool t3)).setCell ⟨bs, 1, none⟩ (.slice A3 l3 c3)).setCell ⟨bs, 2, none⟩ (.slice A3' l3' c3')) = w8 at *
      go_wp2
      go_roundw
      case rel => exact ⟨k + 1, by omega, by go_num, c8, kp8, kq8, _, _, _, _, _, _, _, kS8, y8⟩
      case measure => simp [intOf]; omega
    · have hk2 : k = (hi + 1 - lo).toNat := by omega
      go_wp2_with fail
      refine (FLB.out wr).mono ?_
      rintro e w5 ⟨hb5, rfl⟩
      have c5 := cr.next hb5
      have kS5 := kS.next' hb5
      have fS5 := fS.next hb5
      rw [hk2, ← HR.out] at fS5
      obtain ⟨f0, f1, f2⟩ := bk3 kS5
      have kr := c5.kr
      obtain ⟨d0, d1, d2⟩ := bk3 kr
      have g0 := kr.frozen 0
      have g1 := kr.frozen 1
      have g2 := kr.frozen 2
      clear cr kp kq kS fS hb5 i0 i1 i2 i3 j0 j1 j2 j3 hk2
      go_wp2
      refine bodyPost_ret (v := .agg #[.bool s, .slice B1 n1 e1, .slice B1' n1' e1']) (by simp [results, Tryz.results49, go_sem, d0, d1, d2]) rfl ?_
      refine ⟨set3_below c5.below (by omega), _, rfl, ?_⟩
      exact (fS5.set3 kr (.bool s) (.slice B1 n1 e1) (.slice B1' n1' e1')).more (by rw [show (World.setCell _ _ _) = set3 w5 (w.heap.size + 1 + 1) (.bool s) (.slice B1 n1 e1) (.slice B1' n1' e1') from rfl, set3_size]; exact Nat.le_refl _)

/-- The area that two cells have in common on a cylinder, or in the plane. -/
theorem rounded_any (la lb : List Pl) (ma mb : Bool) (va vb : Value) (p : Int) (w : World) (ha : IsC w w.heap.size va la ma) (hb : IsC w w.heap.size vb lb mb) (ka : validC la) (kb : validC lb) (hp : 0 ≤ p) (hp2 : p ≤ 1048576) (wa : p = 0 ∨ wid la ≤ p) (wb : p = 0 ∨ wid lb ≤ p) :
    Calls Tryz.prog 32 #[va, vb, .int .i64 p] w fun e w' => Below w.heap.size w w' ∧ ∃ v, e = .returned v ∧ IsF w' w'.heap.size v (rndQ la lb p) := by
  have HC := Lib.hid (fun X (ha : IsC X X.heap.size va la ma) (hb : IsC X X.heap.size vb lb mb) => common_any la lb ma mb va vb 0 X ha hb ka kb (by omega))
  have HP := Lib.hid (fun (h : ¬ p = 0) X (ha : IsC X X.heap.size va la ma) (hb : IsC X X.heap.size vb lb mb) => round_any la lb ma mb va vb p X ha hb ka kb (by omega) hp2 (by omega) (by omega))
  have HZ : Hid (p = 0 → rndQ la lb p = commonQ la lb 0) := fun h => by unfold rndQ; rw [if_pos h]
  obtain ⟨A, ca, rfl⟩ := ha.form
  obtain ⟨A', cb, rfl⟩ := hb.form
  clear wa wb
  by_cases h0 : p = 0
  · rw [← HZ.out h0] at HC
    clear HP HZ
    subst h0
    go_enter Tryz.func32, Tryz.ntmps32
    go_wp2_with fail
    have c0 := Cm.start w (.slice A la.length ca) (.slice A' lb.length cb) ma mb
    generalize (((w.alloc (.cells #[.slice A la.length ca, .bool ma] 33)).alloc (.cells #[.slice A' lb.length cb, .bool mb] 33)).alloc (.cells #[.bool false, .slice none 0 0, .slice none 0 0] 56)) = W at *
    have ha0 := (ha.below c0.below).more c0.below.size
    have hb0 := (hb.below c0.below).more c0.below.size
    obtain ⟨a0, a1⟩ := bk2 c0.ka
    obtain ⟨b0, b1⟩ := bk2 c0.kb
    have CM := HC.out W ha0 hb0
    clear HC
    refine CM.mono ?_
    rintro e w1 ⟨hb1, v1, rfl, y1⟩
    obtain ⟨s, B1, n1, e1, B1', n1', e1', rfl⟩ := y1.form
    have c1 := c0.next hb1
    have kr := c1.kr
    obtain ⟨d0, d1, d2⟩ := bk3 kr
    have g0 := kr.frozen 0
    have g1 := kr.frozen 1
    have g2 := kr.frozen 2
    clear a0 a1 b0 b1 c0 hb1 CM
    go_wp2
    refine bodyPost_ret (v := .agg #[.bool s, .slice B1 n1 e1, .slice B1' n1' e1']) (by simp [results, Tryz.results32, go_sem, d0, d1, d2]) rfl ?_
    refine ⟨set3_below c1.below (by omega), _, rfl, ?_⟩
    exact (y1.set3 kr (.bool s) (.slice B1 n1 e1) (.slice B1' n1' e1')).more (by rw [show (World.setCell _ _ _) = set3 w1 (w.heap.size + 1 + 1) (.bool s) (.slice B1 n1 e1) (.slice B1' n1' e1') from rfl, set3_size]; exact Nat.le_refl _)
  · have h0' : (p == 0) = false := by simpa using h0
    have HP := Lib.hid (HP.out h0)
    clear HC HZ
    go_enter Tryz.func32, Tryz.ntmps32
    go_wp2_with fail
    have c0 := Cm.start w (.slice A la.length ca) (.slice A' lb.length cb) ma mb
    generalize (((w.alloc (.cells #[.slice A la.length ca, .bool ma] 33)).alloc (.cells #[.slice A' lb.length cb, .bool mb] 33)).alloc (.cells #[.bool false, .slice none 0 0, .slice none 0 0] 56)) = W at *
    have ha0 := (ha.below c0.below).more c0.below.size
    have hb0 := (hb.below c0.below).more c0.below.size
    obtain ⟨a0, a1⟩ := bk2 c0.ka
    obtain ⟨b0, b1⟩ := bk2 c0.kb
    have CM := HP.out W ha0 hb0
    clear HP
    refine CM.mono ?_
    rintro e w1 ⟨hb1, v1, rfl, y1⟩
    obtain ⟨s, B1, n1, e1, B1', n1', e1', rfl⟩ := y1.form
    have c1 := c0.next hb1
    have kr := c1.kr
    obtain ⟨d0, d1, d2⟩ := bk3 kr
    have g0 := kr.frozen 0
    have g1 := kr.frozen 1
    have g2 := kr.frozen 2
    clear a0 a1 b0 b1 c0 hb1 CM
    go_wp2
    refine bodyPost_ret (v := .agg #[.bool s, .slice B1 n1 e1, .slice B1' n1' e1']) (by simp [results, Tryz.results32, go_sem, d0, d1, d2]) rfl ?_
    refine ⟨set3_below c1.below (by omega), _, rfl, ?_⟩
    exact (y1.set3 kr (.bool s) (.slice B1 n1 e1) (.slice B1' n1' e1')).more (by rw [show (World.setCell _ _ _) = set3 w1 (w.heap.size + 1 + 1) (.bool s) (.slice B1 n1 e1) (.slice B1' n1' e1') from rfl, set3_size]; exact Nat.le_refl _)
end Go.Proofs.YtaihplgfbepgpaaGreatDoor

namespace Go.Proofs.YtaihplgfbepgpaaGreatDoor
open Go.RowKit Ar

/-- A period is right for cells. -/
def perOk (p : Int) (L : List Ce) : Prop := (0 ≤ p ∧ p ≤ 1048576) ∧ ∀ x ∈ L, p = 0 ∨ wid x.1 ≤ p

set_option maxRecDepth 100000 in
set_option maxHeartbeats 3200000 in
theorem periodic_any (L : List Ce) (v : Value) (p : Int) (w : World) (h : IsCs w w.heap.size v L) (hval : ∀ x ∈ L, validC x.1) (hL : L.length ≤ 1000000) (ok : Bool) (hok : ok = true ↔ perOk p L) :
    Calls Tryz.prog 31 #[.int .i64 p, v] w fun e w' => Below w.heap.size w w' ∧ e = .returned (.int .i64 (if ok then 0 else 2)) := by
  have hcap : ∀ A c, v = .slice A L.length c → L.length ≤ c := fun A c e => by subst e; exact h.cap
  obtain ⟨A, c, rfl⟩ := h.form
  have hcap := hcap A c rfl
  have HOK := Lib.hid hok
  have HV := Lib.hid hval
  have HR1 : Hid (ok = true → (if ok then (0 : Int) else 2) = 0) := fun h => by rw [h]; rfl
  have HR2 : Hid (ok = false → (if ok then (0 : Int) else 2) = 2) := fun h => by rw [h]; rfl
  generalize (if ok then (0 : Int) else 2) = er at *
  clear hok hval
  by_cases c1 : p < 0
  · have e1 : ok = false := by
      cases hb : ok
      · rfl
      · have := (HOK.out.1 hb).1; omega
    have e2 := HR2.out e1
    subst e2
    go_enter Tryz.func31, Tryz.ntmps31
    go_wp2
    go_ret
    exact ⟨Below.refl _ _, rfl⟩
  by_cases c2 : 1048576 < p
  · have e1 : ok = false := by
      cases hb : ok
      · rfl
      · have := (HOK.out.1 hb).1; omega
    have e2 := HR2.out e1
    subst e2
    go_enter Tryz.func31, Tryz.ntmps31
    go_wp2
    go_ret
    exact ⟨Below.refl _ _, rfl⟩
  go_enter Tryz.func31, Tryz.ntmps31
  go_wp2_with fail
  go_loopw [16] (fun i wr => ∃ k : Nat, k ≤ L.length ∧ i = .int .i64 k ∧ Hid (∀ (m : Nat) (y : Ce), m < k → L[m]? = some y → p = 0 ∨ wid y.1 ≤ p) ∧ Below w.heap.size w wr) (fun i _ => L.length - (intOf i).toNat)
  case atStart => exact ⟨0, Nat.zero_le _, rfl, (fun m y hm => absurd hm (Nat.not_lt_zero _)), Below.refl _ _⟩
  case round =>
    obtain ⟨k, hk, rfl, HF, hB⟩ := hrel
    rcases Nat.lt_or_ge k L.length with hlt | hge
    · obtain ⟨ad, A1, c1', rfl, hab, d1, d2, hC⟩ := (h.below hB).at (i := k) (List.getElem?_eq_getElem hlt)
      have HLK : Hid (L[k]? = some L[k]) := List.getElem?_eq_getElem hlt
      have hmem := List.getElem_mem hlt
      have hxv := HV.out _ hmem
      generalize L[k] = x at *
      obtain ⟨xl, xm⟩ := x
      simp only at d1 d2 hC hxv
      have hwo := below_alloc wr (.cells #[.slice A1 xl.length c1', .bool xm] 33)
      have hC0 := (hC.more hB.size).next hwo
      have hBo := hB.trans (hwo.mono hB.size)
      have h3 := hxv.1
      have h8 := hxv.2.1
      obtain ⟨ia1, ia2, _⟩ := bbox_in (l := xl) (by omega) hxv.2.2.1
      have AR := around_any xl xm _ _ hC0 (by omega) (by omega)
      have HW : Hid (wid xl = (bbox xl).2.1 - (bbox xl).1) := rfl
      have b1 : (k : Int) < L.length := by omega
      have b2 : (0 : Int) ≤ k := by omega
      unfold bv at AR
      generalize (bbox xl).1 = x1 at *
      generalize (bbox xl).2.1 = x2 at *
      generalize (bbox xl).2.2.1 = x3 at *
      generalize (bbox xl).2.2.2 = x4 at *
      have ww1 : IntKind.i64.wrap (x2 - x1) = x2 - x1 := IntWalk.i64_in _ (by omega)
      clear hC hxv hC0
      go_wp2_with fail
      refine AR.mono ?_
      rintro e w1 ⟨hb1, rfl⟩
      have hB1 := hBo.trans (hb1.mono hBo.size)
      have hB2 := hB1.alloc hB1.size (.cells #[.int .i64 x1, .int .i64 x2, .int .i64 x3, .int .i64 x4] 100)
      clear AR d1 d2 hBo hb1 hwo hB
      have step : (p = 0 ∨ wid xl ≤ p) → Hid (∀ (m : Nat) (y : Ce), m < k + 1 → L[m]? = some y → p = 0 ∨ wid y.1 ≤ p) := fun hx m y hm hy => by
        rcases Nat.lt_or_ge m k with h5 | h5
        · exact HF.out m y h5 hy
        · have : m = k := by omega
          subst this
          have := HLK.out
          rw [hy] at this
          injection this with this
          subst this
          exact hx
      by_cases c3 : p = 0
      · have HN := step (.inl c3)
        clear step hmem
        subst c3
        go_wp2
        go_roundw
        case rel => exact ⟨k + 1, by omega, by go_num, HN, hB2⟩
        case measure => simp [intOf]; omega
      · have c4 : 0 < p := by omega
        by_cases c5 : p < x2 - x1
        · have e1 : Hid (ok = false) := by
            show _ = _
            cases hb : ok
            · rfl
            · have := (HOK.out.1 hb).2 _ hmem
              simp only at this
              rw [HW.out] at this
              omega
          have e2 := HR2.out e1.out
          subst e2
          clear step hmem
          go_wp2
          go_ret
          exact ⟨hB2, rfl⟩
        · have HN := step (.inr (by rw [HW.out]; omega))
          clear step hmem
          go_wp2
          go_roundw
          case rel => exact ⟨k + 1, by omega, by go_num, HN, hB2⟩
          case measure => simp [intOf]; omega
    · have hkl : k = L.length := by omega
      subst hkl
      have e1 : Hid (ok = true) := by
        show _ = _
        refine HOK.out.2 ⟨⟨by omega, by omega⟩, fun x hx => ?_⟩
        obtain ⟨m, hm⟩ := List.getElem?_of_mem hx
        exact HF.out m x (List.getElem?_eq_some_iff.1 hm).1 hm
      have e2 := HR1.out e1.out
      subst e2
      go_wp2
      go_ret
      exact ⟨hB, rfl⟩

theorem rndQ_sz {la lb : List Pl} (ka : validC la) (kb : validC lb) {p : Int} (hp : perOk p [(la, true), (lb, true)]) : sz (rndQ la lb p) ≤ 6000000000 := by
  have h1 := hp.2 (la, true) (by simp)
  have h2 := hp.2 (lb, true) (by simp)
  have h0 := hp.1
  simp only at h1 h2
  unfold rndQ
  split
  · have := common_small ka kb (dx := 0) (by omega)
    omega
  · by_cases hc : loP la lb p ≤ hiP la lb p + 1
    · exact part_sz ka kb (by omega) (by omega) (by omega) (by omega) _ (by omega)
    · rw [show (hiP la lb p + 1 - loP la lb p).toNat = 0 by omega]
      have := sz_small 0 (by decide)
      have e0 : ((0 : Int) : Rat) = 0 := rfl
      rw [e0] at this
      show sz 0 ≤ _
      omega
theorem perOk_two (la lb : List Pl) (ma mb : Bool) (p : Int) : perOk p [(la, ma), (lb, mb)] ↔ perOk p [(la, true), (lb, true)] := by
  unfold perOk
  simp

set_option maxRecDepth 100000 in
set_option maxHeartbeats 3200000 in
theorem CommonRound_any (la lb : List Pl) (ma mb : Bool) (va vb : Value) (p : Int) (w : World) (ha : IsC w w.heap.size va la ma) (hb : IsC w w.heap.size vb lb mb) (he : EnvR w) (ok per : Bool) (hok : ok = true ↔ validC la ∧ validC lb) (hper : per = true ↔ perOk p [(la, true), (lb, true)]) :
    Calls Tryz.prog 14 #[va, vb, .int .i64 p] w fun e w' => Below w.heap.size w w' ∧ e = .returned (.tuple #[.string ⟨(if ok && per then ratText (rndQ la lb p) else []).toArray⟩, .int .i64 (if ok then if per then 0 else 2 else 80)]) := by
  obtain ⟨A, ca, rfl⟩ := ha.form
  obtain ⟨A', cb, rfl⟩ := hb.form
  have HPER := Lib.hid hper
  clear hper
  go_enter Tryz.func14, Tryz.ntmps14
  go_wp2_with fail
  have hB0 : Below w.heap.size w (((w.alloc (.cells #[.slice A la.length ca, .bool ma] 33)).alloc (.cells #[.slice A' lb.length cb, .bool mb] 33)).alloc (.cells #[.slice A la.length ca, .bool ma, .slice A' lb.length cb, .bool mb] 33)) := ((below_alloc w _).alloc (by simp) _).alloc (by simp; omega) _
  have k1 : Bk (((w.alloc (.cells #[.slice A la.length ca, .bool ma] 33)).alloc (.cells #[.slice A' lb.length cb, .bool mb] 33)).alloc (.cells #[.slice A la.length ca, .bool ma, .slice A' lb.length cb, .bool mb] 33)) w.heap.size 33 #[.slice A la.length ca, .bool ma] := ((Bk.new _ _ _).alloc _).alloc _
  have k2 : Bk (((w.alloc (.cells #[.slice A la.length ca, .bool ma] 33)).alloc (.cells #[.slice A' lb.length cb, .bool mb] 33)).alloc (.cells #[.slice A la.length ca, .bool ma, .slice A' lb.length cb, .bool mb] 33)) (w.heap.size + 1) 33 #[.slice A' lb.length cb, .bool mb] := (Bk.new2 _ _ _ _).alloc _
  have k3 := Bk.new3 w (.cells #[.slice A la.length ca, .bool ma] 33) (.cells #[.slice A' lb.length cb, .bool mb] 33) 33 #[.slice A la.length ca, .bool ma, .slice A' lb.length cb, .bool mb]
  generalize (((w.alloc (.cells #[.slice A la.length ca, .bool ma] 33)).alloc (.cells #[.slice A' lb.length cb, .bool mb] 33)).alloc (.cells #[.slice A la.length ca, .bool ma, .slice A' lb.length cb, .bool mb] 33)) = w0 at *
  have ha0 := (ha.below hB0).more hB0.size
  have hb0 := (hb.below hB0).more hB0.size
  have hcs := two_cells ha0 hb0 k3
  have CE := cells_any _ _ w0 (by simp) hcs (!ok) (by cases ok <;> simp at hok ⊢ <;> grind)
  refine CE.mono ?_
  rintro e w1 ⟨hb1, rfl⟩
  have k11 := k1.next' hb1
  have k21 := k2.next' hb1
  have ha1 := ha0.next hb1
  have hb1' := hb0.next hb1
  have hB1 := hB0.trans (hb1.mono hB0.size)
  have he1 := he.next hB1
  obtain ⟨x0, x1⟩ := bk2 k11
  obtain ⟨y0, y1⟩ := bk2 k21
  have lt1 := k11.lt
  have lt2 := k21.lt
  clear CE k1 k2 k3 hcs hb1 hB0 ha0 hb0
  cases ok
  · clear hok
    go_wp2
    go_ret2
    exact ⟨hB1, rfl⟩
  · obtain ⟨ka, kb⟩ := hok.1 rfl
    clear hok
    go_wp2_with fail
    have hA := below_alloc w1 (.cells #[.slice A la.length ca, .bool ma, .slice A' lb.length cb, .bool mb] 33)
    have kN := Bk.new w1 33 #[.slice A la.length ca, .bool ma, .slice A' lb.length cb, .bool mb]
    have hcs := two_cells (ha1.next hA) (hb1'.next hA) kN
    have k12 := k11.next' hA
    have k22 := k21.next' hA
    have ha2 := ha1.next hA
    have hb2 := hb1'.next hA
    have hB2 := hB1.trans (hA.mono hB1.size)
    clear k11 k21 ha1 hb1' hB1 he1 x0 x1 y0 y1 lt1 lt2 hA kN
    generalize (w1.alloc (.cells #[.slice A la.length ca, .bool ma, .slice A' lb.length cb, .bool mb] 33)) = w2 at *
    have PE := periodic_any [(la, ma), (lb, mb)] _ p w2 hcs (by intro x hx; simp at hx; rcases hx with rfl | rfl <;> assumption) (by simp) per (by rw [perOk_two]; exact HPER.out)
    refine PE.mono ?_
    rintro e w3 ⟨hb3, rfl⟩
    have k13 := k12.next' hb3
    have k23 := k22.next' hb3
    have ha3 := ha2.next hb3
    have hb3' := hb2.next hb3
    have hB3 := hB2.trans (hb3.mono hB2.size)
    have he3 := he.next hB3
    obtain ⟨x0, x1⟩ := bk2 k13
    obtain ⟨y0, y1⟩ := bk2 k23
    clear PE hcs k12 k22 ha2 hb2 hB2 hb3
    cases per
    · go_wp2
      go_ret2
      exact ⟨hB3, rfl⟩
    · have HP := HPER.out.1 rfl
      have hsz := rndQ_sz ka kb HP
      have g1 := HP.2 (la, true) (by simp)
      have g2 := HP.2 (lb, true) (by simp)
      have g0 := HP.1
      simp only at g1 g2
      have CM := rounded_any la lb ma mb _ _ p w3 ha3 hb3' ka kb g0.1 g0.2 g1 g2
      clear HP g0 g1 g2 HPER
      go_wp2_with fail
      refine CM.mono ?_
      rintro e w4 ⟨hb4, v4, rfl, y4⟩
      have LG := flong_any _ v4 w4 y4 (by omega) (he3.next hb4)
      go_wp2_with fail
      refine LG.mono ?_
      rintro e w5 ⟨hb5, rfl⟩
      have hB4 := hB3.trans (hb4.mono hB3.size)
      have hB5 := hB4.trans (hb5.mono hB4.size)
      go_wp2
      go_ret2
      exact ⟨hB5, rfl⟩
end Go.Proofs.YtaihplgfbepgpaaGreatDoor

namespace Go.Proofs.YtaihplgfbepgpaaGreatDoor
open Go.RowKit Ar

set_option maxRecDepth 100000 in
theorem isPeriod_any (p : Int) (w : World) (q : Bool) (hq : q = true ↔ 0 ≤ p ∧ p ≤ 1048576) :
    Calls Tryz.prog 33 #[.int .i64 p] w fun e w' => Below w.heap.size w w' ∧ e = .returned (.bool q) := by
  have HQ := Lib.hid hq
  clear hq
  go_enter Tryz.func33, Tryz.ntmps33
  go_wp2
  all_goals
    go_ret
    refine ⟨Below.refl _ _, ret_boolR ?_⟩
    rw [HQ.out]
    grind

set_option maxRecDepth 100000 in
set_option maxHeartbeats 1600000 in
theorem wide_any (l : List Pl) (m : Bool) (v : Value) (p : Int) (w : World) (h : IsC w w.heap.size v l m) (hv : validC l) (q : Bool) (hq : q = true ↔ 0 < p ∧ p < wid l) :
    Calls Tryz.prog 34 #[v, .int .i64 p] w fun e w' => Below w.heap.size w w' ∧ e = .returned (.bool q) := by
  have HQ := Lib.hid hq
  clear hq
  have h3 := hv.1
  have h8 := hv.2.1
  obtain ⟨ia1, ia2, _⟩ := bbox_in (l := l) (by omega) hv.2.2.1
  have R1 := Lib.hid (fun X (hX : Below w.heap.size w X) => reach_any l m v X ((h.below hX).more hX.size) (by omega) (by omega))
  obtain ⟨A, c, rfl⟩ := h.form
  unfold wid at HQ
  generalize (bbox l).1 = x1 at *
  generalize (bbox l).2.1 = x2 at *
  generalize (bbox l).2.2.1 = x3 at *
  generalize (bbox l).2.2.2 = x4 at *
  have ww1 : IntKind.i64.wrap (x2 - x1) = x2 - x1 := IntWalk.i64_in _ (by omega)
  clear h hv
  go_enter Tryz.func34, Tryz.ntmps34
  go_wp2_with fail
  have hB0 := below_alloc w (.cells #[.slice A l.length c, .bool m] 33)
  refine (R1.out _ hB0).mono ?_
  rintro e w1 ⟨hb1, rfl⟩
  have hB1 := hB0.trans (hb1.mono hB0.size)
  have hs1 := hB1.size
  clear R1 hb1 hB0
  go_wp2
  all_goals
    go_ret
    refine ⟨(hB1.alloc hs1 _).alloc (by simp; omega) _, ret_boolR ?_⟩
    rw [HQ.out]
    grind

/-- Two cells and a result in blocks of the call's own. -/
structure Cq (w : World) (ua ub : Value) (ma mb : Bool) (W : World) : Prop where
  below : Below w.heap.size w W
  ka : Bk W w.heap.size 33 #[ua, .bool ma]
  kb : Bk W (w.heap.size + 1) 33 #[ub, .bool mb]
  kr : Bk W (w.heap.size + 1 + 1) 66 #[.bool false, .slice none 0 0, .slice none 0 0]
theorem Cq.next {w W W' : World} {ua ub : Value} {ma mb : Bool} (h : Cq w ua ub ma mb W) (hb : Below W.heap.size W W') : Cq w ua ub ma mb W' :=
  ⟨h.below.trans (hb.mono h.below.size), h.ka.next' hb, h.kb.next' hb, h.kr.next' hb⟩
theorem Cq.drew {w W : World} {ua ub : Value} {ma mb : Bool} (h : Cq w ua ub ma mb W) : Cq w ua ub ma mb W.drew := ⟨h.below.drew, h.ka, h.kb, h.kr⟩
theorem Cq.start (w : World) (ua ub : Value) (ma mb : Bool) : Cq w ua ub ma mb (((w.alloc (.cells #[ua, .bool ma] 33)).alloc (.cells #[ub, .bool mb] 33)).alloc (.cells #[.bool false, .slice none 0 0, .slice none 0 0] 66)) :=
  ⟨((below_alloc w _).alloc (by simp) _).alloc (by simp; omega) _, ((Bk.new _ _ _).alloc _).alloc _, (by simpa using ((Bk.new (w.alloc _) _ _).alloc _)), (by simpa using (Bk.new ((w.alloc _).alloc _) _ _))⟩
theorem Cq.set3 {w W : World} {ua ub : Value} {ma mb : Bool} (h : Cq w ua ub ma mb W) {b : Nat} (hb : w.heap.size + 1 + 1 < b) (x y z : Value) : Cq w ua ub ma mb (set3 W b x y z) :=
  ⟨set3_below h.below (by omega), bk_far3 h.ka (by omega), bk_far3 h.kb (by omega), bk_far3 h.kr (by omega)⟩

set_option maxRecDepth 100000 in
set_option maxHeartbeats 6400000 in
theorem rround_any (la lb : List Pl) (ma mb : Bool) (va vb : Value) (p : Int) (w : World) (ha : IsC w w.heap.size va la ma) (hb : IsC w w.heap.size vb lb mb) (ka : validC la) (kb : validC lb) (hp : 0 ≤ p) (hp2 : p ≤ 1048576) :
    Calls Tryz.prog 35 #[va, vb, .int .i64 p] w fun e w' => Below w.heap.size w w' ∧ ∃ v, e = .returned v ∧ IsQ w' w'.heap.size v (rrndQ la lb p) := by
  obtain ⟨A, ca, rfl⟩ := ha.form
  obtain ⟨A', cb, rfl⟩ := hb.form
  have c0 := Cq.start w (.slice A la.length ca) (.slice A' lb.length cb) ma mb
  by_cases h0 : p = 0
  · have CM := Lib.hid (fun X (ha : IsC X X.heap.size (.agg #[.slice A la.length ca, .bool ma]) la ma) (hb : IsC X X.heap.size (.agg #[.slice A' lb.length cb, .bool mb]) lb mb) => rcommon_any la lb ma mb _ _ 0 X ha hb ka kb (by omega))
    have HR : Hid (rcommonQ la lb 0 = rrndQ la lb p) := by show _ = _; unfold rrndQ; rw [if_pos h0]
    rw [HR.out] at CM
    generalize rrndQ la lb p = rq at *
    subst h0
    go_enter Tryz.func35, Tryz.ntmps35
    go_wp2_with fail
    generalize (((w.alloc (.cells #[.slice A la.length ca, .bool ma] 33)).alloc (.cells #[.slice A' lb.length cb, .bool mb] 33)).alloc (.cells #[.bool false, .slice none 0 0, .slice none 0 0] 66)) = W at *
    refine (CM.out W ((ha.below c0.below).more c0.below.size) ((hb.below c0.below).more c0.below.size)).mono ?_
    rintro e w1 ⟨hb1, v1, rfl, y1⟩
    obtain ⟨s, B1, n1, e1, B1', n1', e1', rfl⟩ := y1.form
    have c1 := c0.next hb1
    have kr := c1.kr
    obtain ⟨d0, d1, d2⟩ := bk3 kr
    have g0 := kr.frozen 0
    have g1 := kr.frozen 1
    have g2 := kr.frozen 2
    clear c0 hb1 CM
    go_wp2
    refine bodyPost_ret (v := .agg #[.bool s, .slice B1 n1 e1, .slice B1' n1' e1']) (by simp [results, Tryz.results35, go_sem, d0, d1, d2]) rfl ?_
    have ST := y1.stored (w := w) kr c1.below (by omega)
    exact ⟨ST.1, _, rfl, ST.2⟩
  have hp0 : 0 < p := by omega
  have h0' : (p == 0) = false := by simpa using h0
  have a3 := ka.1
  have a8 := ka.2.1
  have b3 := kb.1
  have b8 := kb.2.1
  obtain ⟨ia1, ia2, ia3, ia4⟩ := bbox_in (l := la) (by omega) ka.2.2.1
  obtain ⟨ib1, ib2, ib3, ib4⟩ := bbox_in (l := lb) (by omega) kb.2.2.1
  obtain ⟨hnr, hmul⟩ := near_in ka kb hp0 hp2
  have HMUL := Lib.hid hmul
  have HSZ := Lib.hid (rpart_sz ka kb hp0 hp2)
  have HR : Hid (rrndQ la lb p = Geo.sumI (nearR la lb p - 2) (fun k => rcommonQ la lb (k * p)) 5) := by
    show _ = _
    unfold rrndQ
    rw [if_neg h0]
  have HNE : Hid (((bbox la).1 - (bbox lb).1).tdiv p = nearR la lb p) := rfl
  have RA := Lib.hid (fun X (h : IsC X X.heap.size (.agg #[.slice A la.length ca, .bool ma]) la ma) => reach_any la ma _ X h (by omega) (by omega))
  have RB := Lib.hid (fun X (h : IsC X X.heap.size (.agg #[.slice A' lb.length cb, .bool mb]) lb mb) => reach_any lb mb _ X h (by omega) (by omega))
  clear hmul
  generalize nearR la lb p = nr at *
  generalize (bbox la).1 = x1 at *
  generalize (bbox la).2.1 = x2 at *
  generalize (bbox la).2.2.1 = x3 at *
  generalize (bbox la).2.2.2 = x4 at *
  generalize (bbox lb).1 = y1 at *
  generalize (bbox lb).2.1 = y2 at *
  generalize (bbox lb).2.2.1 = y3 at *
  generalize (bbox lb).2.2.2 = y4 at *
  have ww1 : IntKind.i64.wrap (x1 - y1) = x1 - y1 := IntWalk.i64_in _ (by omega)
  have ww2 : IntKind.i64.wrap nr = nr := IntWalk.i64_in _ (by omega)
  have ww3 : IntKind.i64.wrap (nr - 2) = nr - 2 := IntWalk.i64_in _ (by omega)
  have ww4 : IntKind.i64.wrap (nr + 2) = nr + 2 := IntWalk.i64_in _ (by omega)
  have tt1 : (x1 - y1).tdiv p = nr := HNE.out
  go_enter Tryz.func35, Tryz.ntmps35
  go_wp2_with fail
  have hs0 : (((w.alloc (.cells #[.slice A la.length ca, .bool ma] 33)).alloc (.cells #[.slice A' lb.length cb, .bool mb] 33)).alloc (.cells #[.bool false, .slice none 0 0, .slice none 0 0] 66)).heap.size ≥ w.heap.size + 1 + 1 + 1 := by simp
  generalize (((w.alloc (.cells #[.slice A la.length ca, .bool ma] 33)).alloc (.cells #[.slice A' lb.length cb, .bool mb] 33)).alloc (.cells #[.bool false, .slice none 0 0, .slice none 0 0] 66)) = W at *
  refine (RA.out W ((ha.below c0.below).more c0.below.size)).mono ?_
  rintro e w1 ⟨hb1, rfl⟩
  have c1 := c0.next hb1
  have lb1 := c1.kb.lt
  obtain ⟨b0, b1⟩ := bk2 ((c1.kb.alloc (.cells #[.int .i64 x1, .int .i64 x3] 50)).alloc (.cells #[.int .i64 x2, .int .i64 x4] 50))
  clear RA c0 hb1
  go_wp2_with fail
  obtain ⟨bl, hbl⟩ : ∃ b, b = w1.heap.size := ⟨_, rfl⟩
  have hbA := (below_alloc w1 (.cells #[.int .i64 x1, .int .i64 x3] 50)).alloc (by simp) (.cells #[.int .i64 x2, .int .i64 x4] 50)
  have kl := (Bk.new w1 50 #[.int .i64 x1, .int .i64 x3]).alloc (.cells #[.int .i64 x2, .int .i64 x4] 50)
  have c2 := c1.next hbA
  rw [← hbl] at kl ⊢
  clear b0 b1 lb1 c1 hbA hbl
  generalize ((w1.alloc (.cells #[.int .i64 x1, .int .i64 x3] 50)).alloc (.cells #[.int .i64 x2, .int .i64 x4] 50)) = w2 at *
  refine (RB.out w2 ((hb.below c2.below).more c2.below.size)).mono ?_
  rintro e w3 ⟨hb3, rfl⟩
  have c3 := c2.next hb3
  have kl3 := kl.next' hb3
  have ll3 := kl3.lt
  obtain ⟨l0, l1⟩ := bk2 ((kl3.alloc (.cells #[.int .i64 y1, .int .i64 y3] 50)).alloc (.cells #[.int .i64 y2, .int .i64 y4] 50))
  clear RB c2 kl hb3
  have hbA := (below_alloc w3 (.cells #[.int .i64 y1, .int .i64 y3] 50)).alloc (by simp) (.cells #[.int .i64 y2, .int .i64 y4] 50)
  have c4 := c3.next hbA
  go_wp2_with fail
  clear c3 hbA l0 l1 ll3 kl3
  generalize ((w3.alloc (.cells #[.int .i64 y1, .int .i64 y3] 50)).alloc (.cells #[.int .i64 y2, .int .i64 y4] 50)) = w4 at *
  refine (intQ_any 0 _ (by omega)).mono ?_
  rintro e w5 ⟨hb5, v5, rfl, z5⟩
  obtain ⟨s1, A1, l1, e1, A1', l1', e1', rfl⟩ := z5.form
  have c5 := c4.next hb5
  clear c4 hb5
  obtain ⟨bs, hbs⟩ : ∃ b, b = w5.heap.size := ⟨_, rfl⟩
  have hbA := below_alloc w5 (.cells #[.bool s1, .slice A1 l1 e1, .slice A1' l1' e1'] 66)
  have c6 := c5.next hbA
  have ks := qatN z5
  have hlt5 := c5.kr.lt
  have hbsw : w.heap.size + 1 + 1 < bs := by omega
  go_wp2_with fail
  rw [← hbs] at ks ⊢
  clear c5 hbA hbs z5 hlt5 hs0
  generalize (w5.alloc (.cells #[.bool s1, .slice A1 l1 e1, .slice A1' l1' e1'] 66)) = w6 at *
  go_loopw [13] (fun x wr => ∃ k : Nat, k ≤ 5 ∧ x = .int .i64 (nr - 2 + k) ∧ Cq w (.slice A la.length ca) (.slice A' lb.length cb) ma mb wr ∧ QAt wr bs (Geo.sumI (nr - 2) (fun k => rcommonQ la lb (k * p)) k)) (fun x _ => (nr + 3 - intOf x).toNat)
  case atStart => exact ⟨0, Nat.zero_le _, by simp, c6, ks⟩
  case round =>
    clear c6 ks
    obtain ⟨k, hk, rfl, cr, s, B1, n1, e1, B1', n1', e1', kS, fS⟩ := hrel
    by_cases hlt : k < 5
    · have HA : Hid (Geo.sumI (nr - 2) (fun k => rcommonQ la lb (k * p)) (k + 1) = Geo.sumI (nr - 2) (fun k => rcommonQ la lb (k * p)) k + rcommonQ la lb ((nr - 2 + k) * p)) := rfl
      have hm := HMUL.out (nr - 2 + k) (by omega) (by omega)
      have hsz := HSZ.out k (by omega)
      have csz := rcommonQ_sz ka kb (dx := (nr - 2 + k) * p) (by omega)
      have CM := Lib.hid (fun X (ha : IsC X X.heap.size _ la ma) (hb : IsC X X.heap.size _ lb mb) => rcommon_any la lb ma mb (.agg #[.slice A la.length ca, .bool ma]) (.agg #[.slice A' lb.length cb, .bool mb]) ((nr - 2 + k) * p) X ha hb ka kb (by omega))
      generalize Geo.sumI (nr - 2) (fun k => rcommonQ la lb (k * p)) k = sm at *
      generalize rcommonQ la lb ((nr - 2 + k) * p) = cq at *
      obtain ⟨dx, hdx⟩ : ∃ dx, (nr - 2 + (k : Int)) * p = dx := ⟨_, rfl⟩
      have ww5 : IntKind.i64.wrap ((nr - 2 + (k : Int)) * p) = dx := by rw [IntWalk.i64_in _ (by omega)]; exact hdx
      rw [hdx] at CM
      clear hdx
      have ww6 : IntKind.i64.wrap (nr - 2 + k + 1) = nr - 2 + k + 1 := IntWalk.i64_in _ (by omega)
      have hle : nr - 2 + (k : Int) ≤ nr + 2 := by omega
      have ha5 := (ha.below cr.below).more cr.below.size
      have hb5 := (hb.below cr.below).more cr.below.size
      obtain ⟨f0, f1, f2⟩ := bk3 kS
      obtain ⟨a0, a1⟩ := bk2 cr.ka
      obtain ⟨b0, b1⟩ := bk2 cr.kb
      go_wp2_with fail
      refine wp_region_M 8 (by kernel_rfl) (fun X => (X.cell? ⟨bs, 0, none⟩ = some (.bool s) ∧ X.cell? ⟨bs, 1, none⟩ = some (.slice B1 n1 e1) ∧ X.cell? ⟨bs, 2, none⟩ = some (.slice B1' n1' e1')) ∧ (X.cell? ⟨w.heap.size, 0, none⟩ = some (.slice A la.length ca) ∧ X.cell? ⟨w.heap.size, 1, none⟩ = some (.bool ma)) ∧ X.cell? ⟨w.heap.size + 1, 0, none⟩ = some (.slice A' lb.length cb) ∧ X.cell? ⟨w.heap.size + 1, 1, none⟩ = some (.bool mb)) ⟨⟨f0, f1, f2⟩, ⟨a0, a1⟩, b0, b1⟩ (fun hS0 => ?_)
      clear f0 f1 f2 a0 a1 b0 b1
      refine takeM (i := 0) (v := ?_) rfl (by kernel_rfl) (by decide) (by kernel_rfl) (by kernel_rfl) (by kernel_rfl) (fun _ _ _ h => h) (by rfl) (by assumption) ?_ ?_
      rotate_left
      · intro w hSw; (try dsimp only at hSw); go_simp <;> with_reducible rfl
      try simp only [Act.put, List.setIfInBounds_toArray, List.set_cons_zero, List.set_cons_succ]
      refine takeM (i := 1) (v := ?_) rfl (by kernel_rfl) (by decide) (by kernel_rfl) (by kernel_rfl) (by kernel_rfl) (fun _ _ _ h => h) (by rfl) (by assumption) ?_ ?_
      rotate_left
      · intro w hSw; (try dsimp only at hSw); go_simp <;> with_reducible rfl
      try simp only [Act.put, List.setIfInBounds_toArray, List.set_cons_zero, List.set_cons_succ]
      refine takeM (i := 2) (v := ?_) rfl (by kernel_rfl) (by decide) (by kernel_rfl) (by kernel_rfl) (by kernel_rfl) (fun _ _ _ h => h) (by rfl) (by assumption) ?_ ?_
      rotate_left
      · intro w hSw; (try dsimp only at hSw); go_simp <;> with_reducible rfl
      try simp only [Act.put, List.setIfInBounds_toArray, List.set_cons_zero, List.set_cons_succ]
      refine takeM (i := 3) (v := ?_) rfl (by kernel_rfl) (by decide) (by kernel_rfl) (by kernel_rfl) (by kernel_rfl) (fun _ _ _ h => h) (by rfl) (by assumption) ?_ ?_
      rotate_left
      · intro w hSw; (try dsimp only at hSw); go_simp <;> with_reducible rfl
      try simp only [Act.put, List.setIfInBounds_toArray, List.set_cons_zero, List.set_cons_succ]
      refine takeM (i := 4) (v := ?_) rfl (by kernel_rfl) (by decide) (by kernel_rfl) (by kernel_rfl) (by kernel_rfl) (fun _ _ _ h => h) (by rfl) (by assumption) ?_ ?_
      rotate_left
      · intro w hSw; (try dsimp only at hSw); go_simp <;> with_reducible rfl
      try simp only [Act.put, List.setIfInBounds_toArray, List.set_cons_zero, List.set_cons_succ]
      refine takeM (i := 5) (v := ?_) rfl (by kernel_rfl) (by decide) (by kernel_rfl) (by kernel_rfl) (by kernel_rfl) (fun _ _ _ h => h) (by rfl) (by assumption) ?_ ?_
      rotate_left
      · intro w hSw; (try dsimp only at hSw); go_simp <;> with_reducible rfl
      try simp only [Act.put, List.setIfInBounds_toArray, List.set_cons_zero, List.set_cons_succ]
      clear hS0
      refine stepM (i := 6) rfl (by kernel_rfl) (fun K0 hK0 => ?_)
      go_simp
      refine (CM.out wr.drew ha5 hb5).mono ?_
      rintro e w6 ⟨hb6, v6, rfl, y6⟩
      obtain ⟨t2, A2, l2, c2, A2', l2', c2', rfl⟩ := y6.form
      have c6 := cr.drew.next hb6
      have kS6 := kS.drew.next' hb6
      have fS6 := (show IsQ wr.drew wr.drew.heap.size _ _ from fS).next hb6
      have hS2 := And.intro (bk3 kS6) (And.intro (bk2 c6.ka) (bk2 c6.kb))
      have FA := qplus_any _ _ _ _ w6 fS6 y6 (by omega) (by omega)
      clear CM ha5 hb5 cr kS fS hb6
      dsimp only
      refine hK0.out _ _ (fun _ => hS2) (fun _ => ?_)
      clear hK0 K0
      try simp only [Act.put, List.setIfInBounds_toArray, List.set_cons_zero, List.set_cons_succ]
      refine stepM (i := 7) rfl (by kernel_rfl) (fun K0 hK0 => ?_)
      go_simp
      refine FA.mono ?_
      rintro e w7 ⟨hb7, v7, rfl, y7⟩
      obtain ⟨t3, A3, l3, c3, A3', l3', c3', rfl⟩ := y7.form
      have c7 := c6.next hb7
      have kS7 := kS6.next' hb7
      have hS3 := And.intro (bk3 kS7) (And.intro (bk2 c7.ka) (bk2 c7.kb))
      obtain ⟨d0, d1, d2⟩ := bk3 kS7
      have g0 := kS7.frozen 0
      have g1 := kS7.frozen 1
      have g2 := kS7.frozen 2
      clear FA hS2 c6 kS6 fS6 hb7 y6
      dsimp only
      refine hK0.out _ _ (fun _ => hS3) (fun _ => ?_)
      clear hK0 K0
      try simp only [Act.put, List.setIfInBounds_toArray, List.set_cons_zero, List.set_cons_succ]
      refine stepM (i := 8) rfl (by kernel_rfl) (fun K0 hK0 => ?_)
      go_simp
      refine hK0.out _ _ (fun h => absurd rfl h) (fun _ => ?_)
      clear hK0 K0
      try simp only [Act.put, List.setIfInBounds_toArray, List.set_cons_zero, List.set_cons_succ]
      refine doneM (by kernel_rfl) ?_ _
      have c8 := c7.set3 hbsw (.bool t3) (.slice A3 l3 c3) (.slice A3' l3' c3')
      have kS8 := set3_bk (x := .bool t3) (y := .slice A3 l3 c3) (z := .slice A3' l3' c3') kS7
      have y8 := (y7.set3 kS7 (.bool t3) (.slice A3 l3 c3) (.slice A3' l3' c3')).more (B' := (set3 w7 bs (.bool t3) (.slice A3 l3 c3) (.slice A3' l3' c3')).heap.size) (by rw [set3_size]; exact Nat.le_refl _)
      clear hS3 d0 d1 d2 g0 g1 g2 c7 kS7 y7
      unfold set3 at c8 kS8 y8
      rw [← HA.out] at y8
      generalize (((w7.setCell ⟨bs, 0, none⟩ (.bool t3)).setCell ⟨bs, 1, none⟩ (.slice A3 l3 c3)).setCell ⟨bs, 2, none⟩ (.slice A3' l3' c3')) = w8 at *
      go_wp2
      go_roundw
      case rel => exact ⟨k + 1, by omega, by go_num, c8, _, _, _, _, _, _, _, kS8, y8⟩
      case measure => simp [intOf]; omega
    · have hk2 : k = 5 := by omega
      subst hk2
      rw [← HR.out] at fS
      obtain ⟨f0, f1, f2⟩ := bk3 kS
      have kr := cr.kr
      obtain ⟨d0, d1, d2⟩ := bk3 kr
      have g0 := kr.frozen 0
      have g1 := kr.frozen 1
      have g2 := kr.frozen 2
      have hle : ¬ nr - 2 + ((5 : Nat) : Int) ≤ nr + 2 := by omega
      clear kS
      go_wp2
      refine bodyPost_ret (v := .agg #[.bool s, .slice B1 n1 e1, .slice B1' n1' e1']) (by simp [results, Tryz.results35, go_sem, d0, d1, d2]) rfl ?_
      have ST := fS.stored (w := w) kr cr.below (by omega)
      exact ⟨ST.1, _, rfl, ST.2⟩

set_option maxRecDepth 100000 in
set_option maxHeartbeats 3200000 in
theorem RCommonRound_any (la lb : List Pl) (ma mb : Bool) (va vb : Value) (p : Int) (w : World) (ha : IsC w w.heap.size va la ma) (hb : IsC w w.heap.size vb lb mb) (za zb per : Bool) (hza : za = true ↔ validC la) (hzb : zb = true ↔ validC lb) (hper : per = true ↔ perOk p [(la, true), (lb, true)]) :
    Calls Tryz.prog 15 #[va, vb, .int .i64 p] w fun e w' => Below w.heap.size w w' ∧ e = .returned (.tuple #[.string ⟨(if (za && zb) && per then ratText (rrndQ la lb p) else []).toArray⟩, .int .i64 (if za && zb then if per then 0 else 2 else 80)]) := by
  obtain ⟨ip, hip⟩ := bool_of (0 ≤ p ∧ p ≤ 1048576)
  obtain ⟨xa, hxa⟩ := bool_of (0 < p ∧ p < wid la)
  obtain ⟨xb, hxb⟩ := bool_of (0 < p ∧ p < wid lb)
  have HP : Hid (per = (ip && !xa && !xb)) := by
    show _ = _
    rw [Bool.eq_iff_iff, hper]
    simp only [Bool.and_eq_true, Bool.not_eq_true', Bool.eq_false_iff, Ne, hip, hxa, hxb]
    unfold perOk
    simp only [List.mem_cons, List.not_mem_nil, or_false, forall_eq_or_imp, forall_eq]
    omega
  have VA := Lib.hid (fun X (h : Below w.heap.size w X) => rvalid_any la ma va X ((ha.below h).more h.size) za hza)
  have VB := Lib.hid (fun X (h : Below w.heap.size w X) => rvalid_any lb mb vb X ((hb.below h).more h.size) zb hzb)
  have PE := Lib.hid (fun X => isPeriod_any p X ip hip)
  have WA := Lib.hid (fun ka X (h : Below w.heap.size w X) => wide_any la ma va p X ((ha.below h).more h.size) ka xa hxa)
  have WB := Lib.hid (fun kb X (h : Below w.heap.size w X) => wide_any lb mb vb p X ((hb.below h).more h.size) kb xb hxb)
  have CC := Lib.hid (fun X (h : Below w.heap.size w X) ka kb h1 h2 => rround_any la lb ma mb va vb p X ((ha.below h).more h.size) ((hb.below h).more h.size) ka kb h1 h2)
  have HIP := Lib.hid hip
  have HSZ : Hid (validC la → validC lb → 0 ≤ p → p ≤ 1048576 → sz (rrndQ la lb p) ≤ 6000000000) := fun ka kb h1 h2 => by
    unfold rrndQ
    split
    · have := rcommonQ_sz ka kb (dx := 0) (by omega); omega
    · exact rpart_sz ka kb (by omega) h2 5 (by omega)
  rw [HP.out]
  obtain ⟨A, ca, rfl⟩ := ha.form
  obtain ⟨B, cb, rfl⟩ := hb.form
  clear ha hb hper HP hip hxa hxb
  have hB0 : Below w.heap.size w ((w.alloc (.cells #[.slice A la.length ca, .bool ma] 33)).alloc (.cells #[.slice B lb.length cb, .bool mb] 33)) := (below_alloc w _).alloc (by simp) _
  have k1 : Bk ((w.alloc (.cells #[.slice A la.length ca, .bool ma] 33)).alloc (.cells #[.slice B lb.length cb, .bool mb] 33)) w.heap.size 33 #[.slice A la.length ca, .bool ma] := (Bk.new _ _ _).alloc _
  have k2 : Bk ((w.alloc (.cells #[.slice A la.length ca, .bool ma] 33)).alloc (.cells #[.slice B lb.length cb, .bool mb] 33)) (w.heap.size + 1) 33 #[.slice B lb.length cb, .bool mb] := Bk.new2 _ _ _ _
  cases za with
  | false =>
    clear VB CC PE WA WB HSZ HIP hza hzb
    go_enter Tryz.func15, Tryz.ntmps15
    go_wp2_with (first | (go_at_call 27; (with_reducible refine (VA.out _ hB0).mono ?_); rintro e w1 ⟨hb1, rfl⟩; have hB1 := hB0.trans (hb1.mono hB0.size); have k11 := k1.next' hb1; have k21 := k2.next' hb1; obtain ⟨x0, x1⟩ := bk2 k11; obtain ⟨y0, y1⟩ := bk2 k21))
    go_ret2
    exact ⟨hB1, rfl⟩
  | true =>
  have ka := hza.1 rfl
  cases zb with
  | false =>
    clear CC PE WA WB HSZ HIP hza hzb ka
    go_enter Tryz.func15, Tryz.ntmps15
    go_wp2_with (first | (go_at_call 27; (with_reducible refine (VA.out _ hB0).mono ?_); rintro e w1 ⟨hb1, rfl⟩; have hB1 := hB0.trans (hb1.mono hB0.size); have k11 := k1.next' hb1; have k21 := k2.next' hb1; obtain ⟨x0, x1⟩ := bk2 k11; obtain ⟨y0, y1⟩ := bk2 k21) | (go_at_call 27; (with_reducible refine (VB.out _ hB1).mono ?_); rintro e w2 ⟨hb2, rfl⟩; have hB2 := hB1.trans (hb2.mono hB1.size); have k12 := k11.next' hb2; have k22 := k21.next' hb2; obtain ⟨u0, u1⟩ := bk2 k12; obtain ⟨v0, v1⟩ := bk2 k22))
    go_ret2
    exact ⟨hB2, rfl⟩
  | true =>
  have kb := hzb.1 rfl
  have WA := Lib.hid (WA.out ka)
  have WB := Lib.hid (WB.out kb)
  cases ip with
  | false =>
    clear CC WA WB HSZ HIP hza hzb ka kb
    go_enter Tryz.func15, Tryz.ntmps15
    go_wp2_with (first | (go_at_call 27; (with_reducible refine (VA.out _ hB0).mono ?_); rintro e w1 ⟨hb1, rfl⟩; have hB1 := hB0.trans (hb1.mono hB0.size); have k11 := k1.next' hb1; have k21 := k2.next' hb1; obtain ⟨x0, x1⟩ := bk2 k11; obtain ⟨y0, y1⟩ := bk2 k21) | (go_at_call 27; (with_reducible refine (VB.out _ hB1).mono ?_); rintro e w2 ⟨hb2, rfl⟩; have hB2 := hB1.trans (hb2.mono hB1.size); have k12 := k11.next' hb2; have k22 := k21.next' hb2; obtain ⟨u0, u1⟩ := bk2 k12; obtain ⟨v0, v1⟩ := bk2 k22) | (go_at_call 33; (with_reducible refine (PE.out _).mono ?_); rintro e w3 ⟨hb3, rfl⟩; have hB3 := hB2.trans (hb3.mono hB2.size); have k13 := k12.next' hb3; have k23 := k22.next' hb3; obtain ⟨p0, p1⟩ := bk2 k13; obtain ⟨q0, q1⟩ := bk2 k23))
    go_ret2
    exact ⟨hB3, rfl⟩
  | true =>
  cases xa with
  | true =>
    clear CC WB HSZ HIP hza hzb ka kb
    go_enter Tryz.func15, Tryz.ntmps15
    go_wp2_with (first | (go_at_call 27; (with_reducible refine (VA.out _ hB0).mono ?_); rintro e w1 ⟨hb1, rfl⟩; have hB1 := hB0.trans (hb1.mono hB0.size); have k11 := k1.next' hb1; have k21 := k2.next' hb1; obtain ⟨x0, x1⟩ := bk2 k11; obtain ⟨y0, y1⟩ := bk2 k21) | (go_at_call 27; (with_reducible refine (VB.out _ hB1).mono ?_); rintro e w2 ⟨hb2, rfl⟩; have hB2 := hB1.trans (hb2.mono hB1.size); have k12 := k11.next' hb2; have k22 := k21.next' hb2; obtain ⟨u0, u1⟩ := bk2 k12; obtain ⟨v0, v1⟩ := bk2 k22) | (go_at_call 33; (with_reducible refine (PE.out _).mono ?_); rintro e w3 ⟨hb3, rfl⟩; have hB3 := hB2.trans (hb3.mono hB2.size); have k13 := k12.next' hb3; have k23 := k22.next' hb3; obtain ⟨p0, p1⟩ := bk2 k13; obtain ⟨q0, q1⟩ := bk2 k23) | (go_at_call 34; (with_reducible refine (WA.out _ hB3).mono ?_); rintro e w4 ⟨hb4, rfl⟩; have hB4 := hB3.trans (hb4.mono hB3.size); have k14 := k13.next' hb4; have k24 := k23.next' hb4; obtain ⟨r0, r1⟩ := bk2 k14; obtain ⟨s0, s1⟩ := bk2 k24))
    go_ret2
    exact ⟨hB4, rfl⟩
  | false =>
  cases xb with
  | true =>
    clear CC HSZ HIP hza hzb ka kb
    go_enter Tryz.func15, Tryz.ntmps15
    go_wp2_with (first | (go_at_call 27; (with_reducible refine (VA.out _ hB0).mono ?_); rintro e w1 ⟨hb1, rfl⟩; have hB1 := hB0.trans (hb1.mono hB0.size); have k11 := k1.next' hb1; have k21 := k2.next' hb1; obtain ⟨x0, x1⟩ := bk2 k11; obtain ⟨y0, y1⟩ := bk2 k21) | (go_at_call 27; (with_reducible refine (VB.out _ hB1).mono ?_); rintro e w2 ⟨hb2, rfl⟩; have hB2 := hB1.trans (hb2.mono hB1.size); have k12 := k11.next' hb2; have k22 := k21.next' hb2; obtain ⟨u0, u1⟩ := bk2 k12; obtain ⟨v0, v1⟩ := bk2 k22) | (go_at_call 33; (with_reducible refine (PE.out _).mono ?_); rintro e w3 ⟨hb3, rfl⟩; have hB3 := hB2.trans (hb3.mono hB2.size); have k13 := k12.next' hb3; have k23 := k22.next' hb3; obtain ⟨p0, p1⟩ := bk2 k13; obtain ⟨q0, q1⟩ := bk2 k23) | (go_at_call 34; (with_reducible refine (WA.out _ hB3).mono ?_); rintro e w4 ⟨hb4, rfl⟩; have hB4 := hB3.trans (hb4.mono hB3.size); have k14 := k13.next' hb4; have k24 := k23.next' hb4; obtain ⟨r0, r1⟩ := bk2 k14; obtain ⟨s0, s1⟩ := bk2 k24) | (go_at_call 34; (with_reducible refine (WB.out _ hB4).mono ?_); rintro e w5 ⟨hb5, rfl⟩; have hB5 := hB4.trans (hb5.mono hB4.size); have k15 := k14.next' hb5; have k25 := k24.next' hb5; obtain ⟨i0, i1⟩ := bk2 k15; obtain ⟨j0, j1⟩ := bk2 k25))
    go_ret2
    exact ⟨hB5, rfl⟩
  | false =>
  have hpp := HIP.out.1 rfl
  have CC := Lib.hid (fun X (h : Below w.heap.size w X) => CC.out X h ka kb hpp.1 hpp.2)
  have hsz := HSZ.out ka kb hpp.1 hpp.2
  clear HSZ HIP hza hzb ka kb hpp
  go_enter Tryz.func15, Tryz.ntmps15
  go_wp2_with (first | (go_at_call 27; (with_reducible refine (VA.out _ hB0).mono ?_); rintro e w1 ⟨hb1, rfl⟩; have hB1 := hB0.trans (hb1.mono hB0.size); have k11 := k1.next' hb1; have k21 := k2.next' hb1; obtain ⟨x0, x1⟩ := bk2 k11; obtain ⟨y0, y1⟩ := bk2 k21) | (go_at_call 27; (with_reducible refine (VB.out _ hB1).mono ?_); rintro e w2 ⟨hb2, rfl⟩; have hB2 := hB1.trans (hb2.mono hB1.size); have k12 := k11.next' hb2; have k22 := k21.next' hb2; obtain ⟨u0, u1⟩ := bk2 k12; obtain ⟨v0, v1⟩ := bk2 k22) | (go_at_call 33; (with_reducible refine (PE.out _).mono ?_); rintro e w3 ⟨hb3, rfl⟩; have hB3 := hB2.trans (hb3.mono hB2.size); have k13 := k12.next' hb3; have k23 := k22.next' hb3; obtain ⟨p0, p1⟩ := bk2 k13; obtain ⟨q0, q1⟩ := bk2 k23) | (go_at_call 34; (with_reducible refine (WA.out _ hB3).mono ?_); rintro e w4 ⟨hb4, rfl⟩; have hB4 := hB3.trans (hb4.mono hB3.size); have k14 := k13.next' hb4; have k24 := k23.next' hb4; obtain ⟨r0, r1⟩ := bk2 k14; obtain ⟨s0, s1⟩ := bk2 k24) | (go_at_call 34; (with_reducible refine (WB.out _ hB4).mono ?_); rintro e w5 ⟨hb5, rfl⟩; have hB5 := hB4.trans (hb5.mono hB4.size); have k15 := k14.next' hb5; have k25 := k24.next' hb5; obtain ⟨i0, i1⟩ := bk2 k15; obtain ⟨j0, j1⟩ := bk2 k25))
  have C1 := CC.out w5 hB5
  clear CC
  refine C1.mono ?_
  rintro e w6 ⟨hb6, v6, rfl, z6⟩
  have hB6 := hB5.trans (hb6.mono hB5.size)
  clear C1 k1 k2 x0 x1 y0 y1 u0 u1 v0 v1 p0 p1 q0 q1 r0 r1 s0 s1 i0 i1 j0 j1
  go_wp2_with fail
  refine (qtext_any _ _ _ z6 (by omega)).mono ?_
  rintro e w7 ⟨hb7, rfl⟩
  have hB7 := hB6.trans (hb7.mono hB6.size)
  go_wp2
  go_ret2
  exact ⟨hB7, rfl⟩
end Go.Proofs.YtaihplgfbepgpaaGreatDoor
