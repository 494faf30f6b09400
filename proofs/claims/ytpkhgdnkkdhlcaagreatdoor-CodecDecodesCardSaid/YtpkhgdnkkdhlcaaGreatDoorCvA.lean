/-
  Walks of package codec and of its reference: which pipelines are valid for a type, and how much they may lose.
-/
import Derived.Test.YtpkhgdnkkdhlcaaGreatDoorEaA
namespace Go.Proofs.YtpkhgdnkkdhlcaaGreatDoor
open Go.RowKit Ar

/-- A stage: kind, number, step. -/
abbrev Stg := Int × Int × ByteArray
def scell (x : Stg) : List Value := [.int .i64 x.1, .int .i64 x.2.1, .string x.2.2]
def srow (l : List Stg) : List Value := l.flatMap scell
theorem srow_len (l : List Stg) : (srow l).length = l.length * 3 := by
  induction l with
  | nil => rfl
  | cons x l ih => rw [show srow (x :: l) = scell x ++ srow l from rfl, List.length_append, ih]; simp [scell]; omega
theorem scell_at {l : List Stg} {i : Nat} {x : Stg} (h : l[i]? = some x) : (srow l)[i * 3]? = some (.int .i64 x.1) ∧ (srow l)[i * 3 + 1]? = some (.int .i64 x.2.1) ∧ (srow l)[i * 3 + 2]? = some (.string x.2.2) := by
  induction l generalizing i with
  | nil => simp at h
  | cons q l ih =>
    cases i with
    | zero => simp at h; subst h; exact ⟨rfl, rfl, rfl⟩
    | succ i =>
      have := ih (i := i) (by simpa using h)
      have e : srow (q :: l) = .int .i64 q.1 :: .int .i64 q.2.1 :: .string q.2.2 :: srow l := rfl
      rw [e, show (i + 1) * 3 = i * 3 + 1 + 1 + 1 by omega]
      exact this
theorem addr_nx (ad : Addr) (m : Nat) : (⟨(ad.add m).block, (ad.add m).off + 1, none⟩ : Addr) = ad.add (m + 1) := addr_plus ad m 0
theorem Rd.stage {w : World} {B : Nat} {A : Option Addr} {l : List Stg} (h : Rd w B A (srow l)) {i : Nat} {x : Stg} (hx : l[i]? = some x) :
    ∃ ad, A = some ad ∧ ad.block < B ∧ w.cell? (ad.add (i * 3)) = some (.int .i64 x.1) ∧ w.cell? ⟨(ad.add (i * 3)).block, (ad.add (i * 3)).off + 1, none⟩ = some (.int .i64 x.2.1) ∧ w.cell? ⟨(ad.add (i * 3)).block, (ad.add (i * 3)).off + 2, none⟩ = some (.string x.2.2) := by
  obtain ⟨h1, h2, h3⟩ := scell_at hx
  obtain ⟨ad, e, hb, hc⟩ := h (by intro e; rw [e] at h1; simp at h1)
  exact ⟨ad, e, hb, hc _ _ h1, by rw [addr_nx]; exact hc _ _ h2, by rw [addr_plus ad (i * 3) 1]; exact hc _ _ h3⟩

/-! ### plain -/
noncomputable def posT (s : ByteArray) : Bool := (numB s && numB ⟨#[48]⟩) && decide (0 < cmpT s ⟨#[48]⟩)
def empB (s : ByteArray) : Bool := s.toList.isEmpty
/-- A stage may stand at a place. -/
noncomputable def stgB (i : Nat) (x : Stg) : Bool :=
  if x.1 = 1 then (decide (i = 0) && decide (x.2.1 = 0)) && posT x.2.2
  else if x.1 = 2 ∨ x.1 = 3 ∨ x.1 = 5 then (decide (1 ≤ x.2.1) && decide (x.2.1 ≤ 8)) && empB x.2.2
  else if x.1 = 4 then decide (x.2.1 = 0) && empB x.2.2 else false
def typB (k : Int) : Bool := decide (1 ≤ k) && decide (k ≤ 5)
noncomputable def stgsB (L : List Stg) (n : Nat) : Bool := (List.range n).all (fun i => stgB i (L.getD i (0, 0, ⟨#[]⟩)))
noncomputable def pipeB (k : Int) (L : List Stg) : Bool := (typB k && decide (L.length ≤ 4)) && stgsB L L.length
theorem stgsB_succ (L : List Stg) (n : Nat) : stgsB L (n + 1) = (stgsB L n && stgB n (L.getD n (0, 0, ⟨#[]⟩))) := by
  unfold stgsB; rw [List.range_succ, List.all_append]; simp
theorem stgsB_stop {L : List Stg} {i n : Nat} (hi : i < n) (h : stgB i (L.getD i (0, 0, ⟨#[]⟩)) = false) : stgsB L n = false := by
  unfold stgsB
  rw [List.all_eq_false]
  exact ⟨i, List.mem_range.2 hi, by rw [h]; exact Bool.false_ne_true⟩
def rndB (L : List Stg) : Bool := match L with | [] => false | x :: _ => decide (x.1 = 1)
def rndS (L : List Stg) : ByteArray := match L with | [] => ⟨#[]⟩ | x :: _ => if x.1 = 1 then x.2.2 else ⟨#[]⟩
noncomputable def lossR (k : Int) (L : List Stg) : ByteArray × Int := if pipeB k L = true then (if rndB L = true then (divV (rndS L) ⟨#[50]⟩, 0) else (⟨#[48]⟩, 0)) else (⟨#[]⟩, 40)
def widR (k : Int) : Int := if 1 ≤ k ∧ k ≤ 4 then 2 ^ (k - 1).toNat else 0

/-! ### the program -/
set_option maxRecDepth 100000 in
set_option maxHeartbeats 800000 in
theorem ppos_any (s : ByteArray) (w : World) (hs : s.size ≤ 4000000) (he : Env w) :
    Calls Tryz.prog 43 #[.string s] w fun e w' => Below w.heap.size w w' ∧ e = .returned (.bool (posT s)) := by
  obtain ⟨q, hq⟩ : ∃ q, (numB s && numB ⟨#[48]⟩) = q := ⟨_, rfl⟩
  have C := Lib.hid (pcompare_any s ⟨#[48]⟩ w hs (by decide) he q hq)
  have hR : posT s = (q && decide (0 < cmpT s ⟨#[48]⟩)) := by unfold posT; rw [hq]
  rw [hR]
  clear hq hR he hs
  generalize cmpT s ⟨#[48]⟩ = z at *
  go_enter Tryz.func43, Tryz.ntmps43
  go_wp2_with fail
  refine C.out.mono ?_
  rintro e w1 ⟨hb1, c, rfl, hc⟩
  cases q
  · go_wp2
    go_ret
    exact ⟨hb1, rfl⟩
  · obtain rfl := hc rfl
    go_wp2
    go_ret
    exact ⟨hb1, rfl⟩
set_option maxRecDepth 100000 in
set_option maxHeartbeats 800000 in
theorem rpos_any (s : ByteArray) (w : World) (hs : s.size ≤ 4000000) :
    Calls Tryz.prog 46 #[.string s] w fun e w' => Below w.heap.size w w' ∧ e = .returned (.bool (posT s)) := by
  obtain ⟨q, hq⟩ : ∃ q, (numB s && numB ⟨#[48]⟩) = q := ⟨_, rfl⟩
  have C := Lib.hid (rcompare_any s ⟨#[48]⟩ w hs (by decide) q hq)
  have hR : posT s = (q && decide (0 < cmpT s ⟨#[48]⟩)) := by unfold posT; rw [hq]
  rw [hR]
  show Calls _ _ _ _ (fun e w' => Below w.heap.size w w' ∧ e = .returned (.bool (q && decide (0 < cmpQ (textRat s.data.toList) (textRat (ByteArray.mk #[48]).data.toList)))))
  clear hq hR hs
  generalize cmpQ (textRat s.data.toList) (textRat (ByteArray.mk #[48]).data.toList) = z at *
  go_enter Tryz.func46, Tryz.ntmps46
  go_wp2_with fail
  refine C.out.mono ?_
  rintro e w1 ⟨hb1, c, rfl, hc⟩
  cases q
  · go_wp2
    go_ret
    exact ⟨hb1, rfl⟩
  · obtain rfl := hc rfl
    go_wp2
    go_ret
    exact ⟨hb1, rfl⟩
-- GEN (cvgen.py)
set_option maxRecDepth 100000 in
set_option maxHeartbeats 3200000 in
theorem pstage_any (i : Nat) (x : Stg) (w : World) (hx : x.2.2.size ≤ 4000000) (he : Env w) :
    Calls Tryz.prog 58 #[.int .i64 i, .agg #[.int .i64 x.1, .int .i64 x.2.1, .string x.2.2]] w fun e w' => Below w.heap.size w w' ∧ e = .returned (.bool (stgB i x)) := by
  obtain ⟨kd, n, s⟩ := x
  simp only at hx
  have PO := Lib.hid (fun W (hW : Below w.heap.size w W) => ppos_any s W hx (he.next hW))
  have B0 : BxW w [(w.heap.size, 52, #[.int .i64 kd, .int .i64 n, .string s])] (w.alloc (.cells #[.int .i64 kd, .int .i64 n, .string s] 52)) := (BxW.nil w).new _ _
  obtain ⟨b0, b1, b2⟩ := bk3 B0.one
  have hB := B0.below
  show Calls _ _ #[.int .i64 i, .agg #[.int .i64 kd, .int .i64 n, .string s]] _ _
  clear he
  by_cases h1 : kd = 1
  · subst h1
    by_cases hi : i = 0
    · subst hi
      by_cases hn : n = 0
      · subst hn
        have hR : stgB 0 (1, 0, s) = posT s := by simp [stgB]
        rw [hR]
        go_enter Tryz.func58, Tryz.ntmps58
        go_wp2_with fail
        generalize w.alloc (.cells #[.int .i64 1, .int .i64 0, .string s] 52) = W0 at *
        refine (PO.out _ hB).mono ?_
        rintro e w1 ⟨hb1, rfl⟩
        go_wp2
        go_ret
        exact ⟨hB.trans (hb1.mono hB.size), rfl⟩
      · have hR : stgB 0 (1, n, s) = false := by simp [stgB, hn]
        rw [hR]
        go_enter Tryz.func58, Tryz.ntmps58
        go_wp2
        go_ret
        exact ⟨hB, rfl⟩
    · have hR : stgB i (1, n, s) = false := by simp [stgB, hi]
      have hi' : ¬ (i : Int) = 0 := by omega
      rw [hR]
      go_enter Tryz.func58, Tryz.ntmps58
      go_wp2
      go_ret
      exact ⟨hB, rfl⟩
  by_cases h2 : kd = 2 ∨ kd = 3 ∨ kd = 5
  · by_cases hn1 : 1 ≤ n
    · by_cases hn8 : n ≤ 8
      · have hR : stgB i (kd, n, s) = empB s := by simp [stgB, h1, h2, hn1, hn8]
        rw [hR]
        rcases h2 with rfl | rfl | rfl
        all_goals
          go_enter Tryz.func58, Tryz.ntmps58
          go_wp2
          go_ret
          exact ⟨hB, rfl⟩
      · have hR : stgB i (kd, n, s) = false := by simp [stgB, h1, h2, hn1, hn8]
        rw [hR]
        rcases h2 with rfl | rfl | rfl
        all_goals
          go_enter Tryz.func58, Tryz.ntmps58
          go_wp2
          go_ret
          exact ⟨hB, rfl⟩
    · have hR : stgB i (kd, n, s) = false := by simp [stgB, h1, h2, hn1]
      rw [hR]
      rcases h2 with rfl | rfl | rfl
      all_goals
        go_enter Tryz.func58, Tryz.ntmps58
        go_wp2
        go_ret
        exact ⟨hB, rfl⟩
  by_cases h4 : kd = 4
  · subst h4
    by_cases hn : n = 0
    · subst hn
      have hR : stgB i (4, 0, s) = empB s := by simp [stgB]
      rw [hR]
      go_enter Tryz.func58, Tryz.ntmps58
      go_wp2
      go_ret
      exact ⟨hB, rfl⟩
    · have hR : stgB i (4, n, s) = false := by simp [stgB, hn]
      rw [hR]
      go_enter Tryz.func58, Tryz.ntmps58
      go_wp2
      go_ret
      exact ⟨hB, rfl⟩
  have hR : stgB i (kd, n, s) = false := by simp [stgB, h1, h2, h4]
  rw [hR]
  obtain ⟨h2, h3, h5⟩ : ¬ kd = 2 ∧ ¬ kd = 3 ∧ ¬ kd = 5 := ⟨fun e => h2 (.inl e), fun e => h2 (.inr (.inl e)), fun e => h2 (.inr (.inr e))⟩
  go_enter Tryz.func58, Tryz.ntmps58
  go_wp2
  go_ret
  exact ⟨hB, rfl⟩
set_option maxRecDepth 100000 in
set_option maxHeartbeats 800000 in
theorem ptyped_any (k : Int) (w : World) : Calls Tryz.prog 36 #[.int .i64 k] w fun e w' => w = w' ∧ e = .returned (.bool (typB k)) := by
  by_cases h1 : 1 ≤ k
  · have hR : typB k = decide (k ≤ 5) := by simp [typB, h1]
    rw [hR]
    go_enter Tryz.func36, Tryz.ntmps36
    go_wp2
    go_ret
    exact ⟨rfl, rfl⟩
  · have hR : typB k = false := by simp [typB, h1]
    rw [hR]
    go_enter Tryz.func36, Tryz.ntmps36
    go_wp2
    go_ret
    exact ⟨rfl, rfl⟩
set_option maxRecDepth 100000 in
set_option maxHeartbeats 800000 in
theorem pwid_any (k : Int) (w : World) : Calls Tryz.prog 23 #[.int .i64 k] w fun e w' => w = w' ∧ e = .returned (.int .i64 (widR k)) := by
  by_cases h1 : k < 1
  · have hR : widR k = 0 := by unfold widR; rw [if_neg (by omega)]
    rw [hR]
    go_enter Tryz.func23, Tryz.ntmps23
    go_wp2
    go_ret
    exact ⟨rfl, rfl⟩
  by_cases h4 : 4 < k
  · have hR : widR k = 0 := by unfold widR; rw [if_neg (by omega)]
    rw [hR]
    go_enter Tryz.func23, Tryz.ntmps23
    go_wp2
    go_ret
    exact ⟨rfl, rfl⟩
  obtain rfl | rfl | rfl | rfl : k = 1 ∨ k = 2 ∨ k = 3 ∨ k = 4 := by omega
  all_goals
    go_enter Tryz.func23, Tryz.ntmps23
    go_wp2
    go_ret
    exact ⟨rfl, rfl⟩
set_option maxRecDepth 100000 in
set_option maxHeartbeats 3200000 in
theorem ppipe_any (k : Int) (L : List Stg) (A : Option Addr) (c : Nat) (w : World) (h : Rd w w.heap.size A (srow L)) (hL : L.length ≤ 1000000) (hs : ∀ x ∈ L, x.2.2.size ≤ 4000000) (he : Env w) :
    Calls Tryz.prog 25 #[.int .i64 k, .slice A L.length c] w fun e w' => Below w.heap.size w w' ∧ e = .returned (.bool (pipeB k L)) := by
  have TY := Lib.hid (ptyped_any k)
  by_cases ht : typB k = true
  rotate_left
  · have ht' : typB k = false := by simpa using ht
    have hR : pipeB k L = false := by simp [pipeB, ht']
    rw [hR]
    rw [ht'] at TY
    clear ht ht' hR
    go_enter Tryz.func25, Tryz.ntmps25
    go_wp2_with fail
    refine (TY.out _).mono ?_
    rintro e w1 ⟨rfl, rfl⟩
    go_wp2
    go_ret
    exact ⟨Below.refl _ _, rfl⟩
  rw [ht] at TY
  by_cases hl : L.length ≤ 4
  rotate_left
  · have hR : pipeB k L = false := by simp [pipeB, hl]
    have hl' : (4 : Int) < (L.length : Int) := by omega
    rw [hR]
    clear ht hR
    go_enter Tryz.func25, Tryz.ntmps25
    go_wp2_with fail
    refine (TY.out _).mono ?_
    rintro e w1 ⟨rfl, rfl⟩
    go_wp2
    go_ret
    exact ⟨Below.refl _ _, rfl⟩
  have hR : pipeB k L = stgsB L L.length := by simp [pipeB, ht, hl]
  have hl' : ¬ (4 : Int) < (L.length : Int) := by omega
  rw [hR]
  clear ht hR
  have STG := Lib.hid (fun i x (hx : x ∈ L) W (hW : Below w.heap.size w W) => pstage_any i x W (hs x hx) (he.next hW))
  have HS := Lib.hid (@stgsB_succ L)
  have HP := Lib.hid (fun i n (hi : i < n) h => stgsB_stop (L := L) (i := i) (n := n) hi h)
  obtain ⟨RR, hRR0⟩ : ∃ RR, RR = stgsB L L.length := ⟨_, rfl⟩
  rw [← hRR0]
  have HRR := Lib.hid hRR0
  clear hRR0
  clear he
  go_enter Tryz.func25, Tryz.ntmps25
  go_wp2_with fail
  refine (TY.out _).mono ?_
  rintro e w1 ⟨rfl, rfl⟩
  go_wp2_with fail
  go_loopw [17] (fun i wr => ∃ j : Nat, j ≤ L.length ∧ i = .int .i64 j ∧ Hid (stgsB L j = true) ∧ Below w.heap.size w wr) (fun i _ => L.length - (intOf i).toNat)
  case atStart => exact ⟨0, Nat.zero_le _, rfl, rfl, Below.refl _ _⟩
  case round =>
    obtain ⟨j, hj, rfl, HN, hB⟩ := hrel
    by_cases hlt : j < L.length
    · obtain ⟨ad, rfl, hab, d1, d2, d3⟩ := (h.below hB).stage (List.getElem?_eq_getElem hlt)
      have hgd : L.getD j (0, 0, ⟨#[]⟩) = L[j] := by rw [List.getD_eq_getElem?_getD, List.getElem?_eq_getElem hlt]; rfl
      have SJ := Lib.hid (fun W (hW : Below w.heap.size w W) => STG.out j L[j] (List.getElem_mem hlt) W hW)
      have HJ : Hid (stgB j L[j] = true → stgsB L (j + 1) = true) := fun e => by rw [HS.out, HN.out, hgd, e]; rfl
      have HK : Hid (stgB j L[j] = false → RR = false) := fun e => by rw [HRR.out]; exact HP.out _ _ hlt (by rw [hgd]; exact e)
      clear hgd STG HS HP HN HRR
      have b1 : (0 : Int) ≤ (j : Int) := by omega
      have b2 : (j : Int) < (L.length : Int) := by omega
      generalize L[j] = x at *
      generalize stgB j x = q at *
      obtain ⟨x1, x2, x3⟩ := x
      simp only at d1 d2 d3 SJ
      have B1 := ((BxW.nil wr).new 52 #[.int .i64 x1, .int .i64 x2, .string x3])
      have hB1 := hB.trans (B1.below.mono hB.size)
      obtain ⟨b0', b1', b2'⟩ := bk3 B1.one
      go_wp2_with fail
      refine (SJ.out _ hB1).mono ?_
      rintro e w2 ⟨hb2, rfl⟩
      have hB2 := hB1.trans (hb2.mono hB1.size)
      cases q
      · have hRR := HK.out rfl
        subst hRR
        go_wp2
        go_ret
        exact ⟨hB2, rfl⟩
      · have HJ1 := Lib.hid (HJ.out rfl)
        clear HJ HK
        go_wp2
        go_roundw
        case rel => exact ⟨j + 1, by omega, by go_num, HJ1.out, hB2⟩
        case measure => simp [intOf]; omega
    · obtain rfl : j = L.length := by omega
      have hRR : RR = true := HRR.out.trans HN.out
      subst hRR
      clear HRR
      go_wp2
      go_ret
      exact ⟨hB, rfl⟩
set_option maxRecDepth 100000 in
set_option maxHeartbeats 1600000 in
theorem pstep_any (L : List Stg) (A : Option Addr) (c : Nat) (w : World) (h : Rd w w.heap.size A (srow L)) (hL : L.length ≤ 1000000) :
    Calls Tryz.prog 54 #[.slice A L.length c] w fun e w' => Below w.heap.size w w' ∧ e = .returned (.tuple #[.string (rndS L), .bool (rndB L)]) := by
  cases L with
  | nil =>
    show Calls _ _ _ _ (fun e w' => Below w.heap.size w w' ∧ e = .returned (.tuple #[.string ⟨#[]⟩, .bool false]))
    go_enter Tryz.func54, Tryz.ntmps54
    go_wp2
    go_ret2
    exact ⟨Below.refl _ _, rfl⟩
  | cons x L =>
    obtain ⟨ad, rfl, hab, d1, d2, d3⟩ := h.stage (i := 0) (x := x) rfl
    obtain ⟨x1, x2, x3⟩ := x
    simp only at d1 d2 d3
    simp only [List.length_cons] at hL ⊢
    have b2 : ¬ ((L.length + 1 : Nat) : Int) = 0 := by omega
    have b3 : (0 : Int) < ((L.length + 1 : Nat) : Int) := by omega
    clear h
    generalize L.length + 1 = n at *
    rw [Nat.zero_mul, show ad.add 0 = ad by simp [Addr.add]] at d1 d2 d3
    by_cases h1 : x1 = 1
    · have hR : rndS ((x1, x2, x3) :: L) = x3 ∧ rndB ((x1, x2, x3) :: L) = true := by subst h1; exact ⟨rfl, rfl⟩
      rw [hR.1, hR.2]
      clear hR
      subst h1
      go_enter Tryz.func54, Tryz.ntmps54
      go_wp2
      go_ret2
      exact ⟨Below.refl _ _, rfl⟩
    · have hR : rndS ((x1, x2, x3) :: L) = ⟨#[]⟩ ∧ rndB ((x1, x2, x3) :: L) = false := by simp [rndS, rndB, h1]
      rw [hR.1, hR.2]
      clear hR
      have h1' : (x1 != 1) = true := by simp [h1]
      go_enter Tryz.func54, Tryz.ntmps54
      go_wp2
      go_ret2
      exact ⟨Below.refl _ _, rfl⟩
set_option maxRecDepth 100000 in
set_option maxHeartbeats 1600000 in
theorem ploss_any (k : Int) (L : List Stg) (A : Option Addr) (c : Nat) (w : World) (h : Rd w w.heap.size A (srow L)) (hL : L.length ≤ 1000000) (hs : ∀ x ∈ L, x.2.2.size ≤ 4000000) (he : Env w) (her : EnvR w) :
    Calls Tryz.prog 21 #[.int .i64 k, .slice A L.length c] w fun e w' => Below w.heap.size w w' ∧ e = .returned (.tuple #[.string (lossR k L).1, .int .i64 (lossR k L).2]) := by
  have hr : ∀ M : List Stg, (∀ x ∈ M, x.2.2.size ≤ 4000000) → (rndS M).size ≤ 4000000 := fun M hM => by
    cases M with
    | nil => decide
    | cons x M =>
      unfold rndS
      simp only
      split
      · exact hM _ List.mem_cons_self
      · decide
  have PV := Lib.hid (ppipe_any k L A c w h hL hs he)
  have SP := Lib.hid (fun W (hW : Below w.heap.size w W) => pstep_any L A c W (h.below hW |>.more hW.size) hL)
  have DV := Lib.hid (fun W (hW : Below w.heap.size w W) => pdivv_any (rndS L) ⟨#[50]⟩ W (hr L hs) (by decide) (he.next hW) (her.next hW))
  clear he her
  clear hs hr h
  by_cases hp : pipeB k L = true
  rotate_left
  · have hp' : pipeB k L = false := by simpa using hp
    have hR : lossR k L = (⟨#[]⟩, 40) := by unfold lossR; rw [if_neg hp]
    rw [hR]
    rw [hp'] at PV
    clear hp hp' hR
    go_enter Tryz.func21, Tryz.ntmps21
    go_wp2_with fail
    refine PV.out.mono ?_
    rintro e w1 ⟨hb1, rfl⟩
    go_wp2
    go_ret2
    exact ⟨hb1, rfl⟩
  rw [hp] at PV
  by_cases hb : rndB L = true
  rotate_left
  · have hb' : rndB L = false := by simpa using hb
    have hR : lossR k L = (⟨#[48]⟩, 0) := by unfold lossR; rw [if_pos hp, if_neg hb]
    rw [hR]
    rw [hb'] at SP
    clear hp hb hb' hR DV
    generalize rndS L = st at *
    go_enter Tryz.func21, Tryz.ntmps21
    go_wp2_with fail
    refine PV.out.mono ?_
    rintro e w1 ⟨hb1, rfl⟩
    go_wp2_with fail
    refine (SP.out w1 hb1).mono ?_
    rintro e w2 ⟨hb2, rfl⟩
    go_wp2
    go_ret2
    exact ⟨hb1.trans (hb2.mono hb1.size), rfl⟩
  have hR : lossR k L = (divV (rndS L) ⟨#[50]⟩, 0) := by unfold lossR; rw [if_pos hp, if_pos hb]
  rw [hR]
  rw [hb] at SP
  clear hp hb hR
  generalize divV (rndS L) ⟨#[50]⟩ = dd at *
  generalize rndS L = st at *
  go_enter Tryz.func21, Tryz.ntmps21
  go_wp2_with fail
  refine PV.out.mono ?_
  rintro e w1 ⟨hb1, rfl⟩
  go_wp2_with fail
  refine (SP.out w1 hb1).mono ?_
  rintro e w2 ⟨hb2, rfl⟩
  have hB2 := hb1.trans (hb2.mono hb1.size)
  go_wp2_with fail
  refine (DV.out w2 hB2).mono ?_
  rintro e w3 ⟨hb3, rfl⟩
  go_wp2
  go_ret2
  exact ⟨hB2.trans (hb3.mono hB2.size), rfl⟩
set_option maxRecDepth 100000 in
set_option maxHeartbeats 3200000 in
theorem rstage_any (i : Nat) (x : Stg) (w : World) (hx : x.2.2.size ≤ 4000000) :
    Calls Tryz.prog 59 #[.agg #[.int .i64 x.1, .int .i64 x.2.1, .string x.2.2], .int .i64 i] w fun e w' => Below w.heap.size w w' ∧ e = .returned (.bool (stgB i x)) := by
  obtain ⟨kd, n, s⟩ := x
  simp only at hx
  have PO := Lib.hid (fun W (hW : Below w.heap.size w W) => rpos_any s W hx)
  have B0 : BxW w [(w.heap.size, 52, #[.int .i64 kd, .int .i64 n, .string s])] (w.alloc (.cells #[.int .i64 kd, .int .i64 n, .string s] 52)) := (BxW.nil w).new _ _
  obtain ⟨b0, b1, b2⟩ := bk3 B0.one
  have hB := B0.below
  show Calls _ _ #[.agg #[.int .i64 kd, .int .i64 n, .string s], .int .i64 i] _ _
  by_cases h1 : kd = 1
  · subst h1
    by_cases hi : i = 0
    · subst hi
      by_cases hn : n = 0
      · subst hn
        have hR : stgB 0 (1, 0, s) = posT s := by simp [stgB]
        rw [hR]
        go_enter Tryz.func59, Tryz.ntmps59
        go_wp2_with fail
        generalize w.alloc (.cells #[.int .i64 1, .int .i64 0, .string s] 52) = W0 at *
        refine (PO.out _ hB).mono ?_
        rintro e w1 ⟨hb1, rfl⟩
        go_wp2
        go_ret
        exact ⟨hB.trans (hb1.mono hB.size), rfl⟩
      · have hR : stgB 0 (1, n, s) = false := by simp [stgB, hn]
        rw [hR]
        go_enter Tryz.func59, Tryz.ntmps59
        go_wp2
        go_ret
        exact ⟨hB, rfl⟩
    · have hR : stgB i (1, n, s) = false := by simp [stgB, hi]
      have hi' : ¬ (i : Int) = 0 := by omega
      rw [hR]
      go_enter Tryz.func59, Tryz.ntmps59
      go_wp2
      go_ret
      exact ⟨hB, rfl⟩
  by_cases h2 : kd = 2 ∨ kd = 3 ∨ kd = 5
  · by_cases hn1 : 1 ≤ n
    · by_cases hn8 : n ≤ 8
      · have hR : stgB i (kd, n, s) = empB s := by simp [stgB, h1, h2, hn1, hn8]
        rw [hR]
        rcases h2 with rfl | rfl | rfl
        all_goals
          go_enter Tryz.func59, Tryz.ntmps59
          go_wp2
          go_ret
          exact ⟨hB, rfl⟩
      · have hR : stgB i (kd, n, s) = false := by simp [stgB, h1, h2, hn1, hn8]
        rw [hR]
        rcases h2 with rfl | rfl | rfl
        all_goals
          go_enter Tryz.func59, Tryz.ntmps59
          go_wp2
          go_ret
          exact ⟨hB, rfl⟩
    · have hR : stgB i (kd, n, s) = false := by simp [stgB, h1, h2, hn1]
      rw [hR]
      rcases h2 with rfl | rfl | rfl
      all_goals
        go_enter Tryz.func59, Tryz.ntmps59
        go_wp2
        go_ret
        exact ⟨hB, rfl⟩
  by_cases h4 : kd = 4
  · subst h4
    by_cases hn : n = 0
    · subst hn
      have hR : stgB i (4, 0, s) = empB s := by simp [stgB]
      rw [hR]
      go_enter Tryz.func59, Tryz.ntmps59
      go_wp2
      go_ret
      exact ⟨hB, rfl⟩
    · have hR : stgB i (4, n, s) = false := by simp [stgB, hn]
      rw [hR]
      go_enter Tryz.func59, Tryz.ntmps59
      go_wp2
      go_ret
      exact ⟨hB, rfl⟩
  have hR : stgB i (kd, n, s) = false := by simp [stgB, h1, h2, h4]
  rw [hR]
  obtain ⟨h2, h3, h5⟩ : ¬ kd = 2 ∧ ¬ kd = 3 ∧ ¬ kd = 5 := ⟨fun e => h2 (.inl e), fun e => h2 (.inr (.inl e)), fun e => h2 (.inr (.inr e))⟩
  go_enter Tryz.func59, Tryz.ntmps59
  go_wp2
  go_ret
  exact ⟨hB, rfl⟩
set_option maxRecDepth 100000 in
set_option maxHeartbeats 800000 in
theorem rtyped_any (k : Int) (w : World) : Calls Tryz.prog 39 #[.int .i64 k] w fun e w' => w = w' ∧ e = .returned (.bool (typB k)) := by
  by_cases h1 : 1 ≤ k
  · have hR : typB k = decide (k ≤ 5) := by simp [typB, h1]
    rw [hR]
    go_enter Tryz.func39, Tryz.ntmps39
    go_wp2
    go_ret
    exact ⟨rfl, rfl⟩
  · have hR : typB k = false := by simp [typB, h1]
    rw [hR]
    go_enter Tryz.func39, Tryz.ntmps39
    go_wp2
    go_ret
    exact ⟨rfl, rfl⟩
set_option maxRecDepth 100000 in
set_option maxHeartbeats 800000 in
theorem rwid_any (k : Int) (w : World) : Calls Tryz.prog 24 #[.int .i64 k] w fun e w' => w = w' ∧ e = .returned (.int .i64 (widR k)) := by
  by_cases h1 : k < 1
  · have hR : widR k = 0 := by unfold widR; rw [if_neg (by omega)]
    rw [hR]
    go_enter Tryz.func24, Tryz.ntmps24
    go_wp2
    go_ret
    exact ⟨rfl, rfl⟩
  by_cases h4 : 4 < k
  · have hR : widR k = 0 := by unfold widR; rw [if_neg (by omega)]
    rw [hR]
    go_enter Tryz.func24, Tryz.ntmps24
    go_wp2
    go_ret
    exact ⟨rfl, rfl⟩
  obtain rfl | rfl | rfl | rfl : k = 1 ∨ k = 2 ∨ k = 3 ∨ k = 4 := by omega
  all_goals
    go_enter Tryz.func24, Tryz.ntmps24
    go_wp2
    go_ret
    exact ⟨rfl, rfl⟩
set_option maxRecDepth 100000 in
set_option maxHeartbeats 3200000 in
theorem rpipe_any (k : Int) (L : List Stg) (A : Option Addr) (c : Nat) (w : World) (h : Rd w w.heap.size A (srow L)) (hL : L.length ≤ 1000000) (hs : ∀ x ∈ L, x.2.2.size ≤ 4000000) :
    Calls Tryz.prog 26 #[.int .i64 k, .slice A L.length c] w fun e w' => Below w.heap.size w w' ∧ e = .returned (.bool (pipeB k L)) := by
  have TY := Lib.hid (rtyped_any k)
  by_cases ht : typB k = true
  rotate_left
  · have ht' : typB k = false := by simpa using ht
    have hR : pipeB k L = false := by simp [pipeB, ht']
    rw [hR]
    rw [ht'] at TY
    clear ht ht' hR
    go_enter Tryz.func26, Tryz.ntmps26
    go_wp2_with fail
    refine (TY.out _).mono ?_
    rintro e w1 ⟨rfl, rfl⟩
    go_wp2
    go_ret
    exact ⟨Below.refl _ _, rfl⟩
  rw [ht] at TY
  by_cases hl : L.length ≤ 4
  rotate_left
  · have hR : pipeB k L = false := by simp [pipeB, hl]
    have hl' : (4 : Int) < (L.length : Int) := by omega
    rw [hR]
    clear ht hR
    go_enter Tryz.func26, Tryz.ntmps26
    go_wp2_with fail
    refine (TY.out _).mono ?_
    rintro e w1 ⟨rfl, rfl⟩
    go_wp2
    go_ret
    exact ⟨Below.refl _ _, rfl⟩
  have hR : pipeB k L = stgsB L L.length := by simp [pipeB, ht, hl]
  have hl' : ¬ (4 : Int) < (L.length : Int) := by omega
  rw [hR]
  clear ht hR
  have STG := Lib.hid (fun i x (hx : x ∈ L) W (hW : Below w.heap.size w W) => rstage_any i x W (hs x hx))
  have HS := Lib.hid (@stgsB_succ L)
  have HP := Lib.hid (fun i n (hi : i < n) h => stgsB_stop (L := L) (i := i) (n := n) hi h)
  obtain ⟨RR, hRR0⟩ : ∃ RR, RR = stgsB L L.length := ⟨_, rfl⟩
  rw [← hRR0]
  have HRR := Lib.hid hRR0
  clear hRR0
  go_enter Tryz.func26, Tryz.ntmps26
  go_wp2_with fail
  refine (TY.out _).mono ?_
  rintro e w1 ⟨rfl, rfl⟩
  go_wp2_with fail
  go_loopw [5] (fun i wr => ∃ j : Nat, j ≤ L.length ∧ i = .int .i64 j ∧ Hid (stgsB L j = true) ∧ Below w.heap.size w wr) (fun i _ => L.length - (intOf i).toNat)
  case atStart => exact ⟨0, Nat.zero_le _, rfl, rfl, Below.refl _ _⟩
  case round =>
    obtain ⟨j, hj, rfl, HN, hB⟩ := hrel
    by_cases hlt : j < L.length
    · obtain ⟨ad, rfl, hab, d1, d2, d3⟩ := (h.below hB).stage (List.getElem?_eq_getElem hlt)
      have hgd : L.getD j (0, 0, ⟨#[]⟩) = L[j] := by rw [List.getD_eq_getElem?_getD, List.getElem?_eq_getElem hlt]; rfl
      have SJ := Lib.hid (fun W (hW : Below w.heap.size w W) => STG.out j L[j] (List.getElem_mem hlt) W hW)
      have HJ : Hid (stgB j L[j] = true → stgsB L (j + 1) = true) := fun e => by rw [HS.out, HN.out, hgd, e]; rfl
      have HK : Hid (stgB j L[j] = false → RR = false) := fun e => by rw [HRR.out]; exact HP.out _ _ hlt (by rw [hgd]; exact e)
      clear hgd STG HS HP HN HRR
      have b1 : (0 : Int) ≤ (j : Int) := by omega
      have b2 : (j : Int) < (L.length : Int) := by omega
      generalize L[j] = x at *
      generalize stgB j x = q at *
      obtain ⟨x1, x2, x3⟩ := x
      simp only at d1 d2 d3 SJ
      go_wp2_with fail
      refine (SJ.out _ hB).mono ?_
      rintro e w2 ⟨hb2, rfl⟩
      have hB2 := hB.trans (hb2.mono hB.size)
      cases q
      · have hRR := HK.out rfl
        subst hRR
        go_wp2
        go_ret
        exact ⟨hB2, rfl⟩
      · have HJ1 := Lib.hid (HJ.out rfl)
        clear HJ HK
        go_wp2
        go_roundw
        case rel => exact ⟨j + 1, by omega, by go_num, HJ1.out, hB2⟩
        case measure => simp [intOf]; omega
    · obtain rfl : j = L.length := by omega
      have hRR : RR = true := HRR.out.trans HN.out
      subst hRR
      clear HRR
      go_wp2
      go_ret
      exact ⟨hB, rfl⟩
set_option maxRecDepth 100000 in
set_option maxHeartbeats 1600000 in
theorem rstep_any (L : List Stg) (A : Option Addr) (c : Nat) (w : World) (h : Rd w w.heap.size A (srow L)) (hL : L.length ≤ 1000000) :
    Calls Tryz.prog 56 #[.slice A L.length c] w fun e w' => Below w.heap.size w w' ∧ e = .returned (.tuple #[.string (rndS L), .bool (rndB L)]) := by
  cases L with
  | nil =>
    show Calls _ _ _ _ (fun e w' => Below w.heap.size w w' ∧ e = .returned (.tuple #[.string ⟨#[]⟩, .bool false]))
    go_enter Tryz.func56, Tryz.ntmps56
    go_wp2
    go_ret2
    exact ⟨Below.refl _ _, rfl⟩
  | cons x L =>
    obtain ⟨ad, rfl, hab, d1, d2, d3⟩ := h.stage (i := 0) (x := x) rfl
    obtain ⟨x1, x2, x3⟩ := x
    simp only at d1 d2 d3
    simp only [List.length_cons] at hL ⊢
    have b2 : ¬ ((L.length + 1 : Nat) : Int) = 0 := by omega
    have b3 : (0 : Int) < ((L.length + 1 : Nat) : Int) := by omega
    clear h
    generalize L.length + 1 = n at *
    rw [Nat.zero_mul, show ad.add 0 = ad by simp [Addr.add]] at d1 d2 d3
    by_cases h1 : x1 = 1
    · have hR : rndS ((x1, x2, x3) :: L) = x3 ∧ rndB ((x1, x2, x3) :: L) = true := by subst h1; exact ⟨rfl, rfl⟩
      rw [hR.1, hR.2]
      clear hR
      subst h1
      go_enter Tryz.func56, Tryz.ntmps56
      go_wp2
      go_ret2
      exact ⟨Below.refl _ _, rfl⟩
    · have hR : rndS ((x1, x2, x3) :: L) = ⟨#[]⟩ ∧ rndB ((x1, x2, x3) :: L) = false := by simp [rndS, rndB, h1]
      rw [hR.1, hR.2]
      clear hR
      have h1' : (x1 != 1) = true := by simp [h1]
      go_enter Tryz.func56, Tryz.ntmps56
      go_wp2
      go_ret2
      exact ⟨Below.refl _ _, rfl⟩
set_option maxRecDepth 100000 in
set_option maxHeartbeats 1600000 in
theorem rloss_any (k : Int) (L : List Stg) (A : Option Addr) (c : Nat) (w : World) (h : Rd w w.heap.size A (srow L)) (hL : L.length ≤ 1000000) (hs : ∀ x ∈ L, x.2.2.size ≤ 4000000) :
    Calls Tryz.prog 22 #[.int .i64 k, .slice A L.length c] w fun e w' => Below w.heap.size w w' ∧ e = .returned (.tuple #[.string (lossR k L).1, .int .i64 (lossR k L).2]) := by
  have hr : ∀ M : List Stg, (∀ x ∈ M, x.2.2.size ≤ 4000000) → (rndS M).size ≤ 4000000 := fun M hM => by
    cases M with
    | nil => decide
    | cons x M =>
      unfold rndS
      simp only
      split
      · exact hM _ List.mem_cons_self
      · decide
  have PV := Lib.hid (rpipe_any k L A c w h hL hs)
  have SP := Lib.hid (fun W (hW : Below w.heap.size w W) => rstep_any L A c W (h.below hW |>.more hW.size) hL)
  have DV := Lib.hid (fun W (hW : Below w.heap.size w W) => rdivv_any (rndS L) ⟨#[50]⟩ W (hr L hs) (by decide))
  clear hs hr h
  by_cases hp : pipeB k L = true
  rotate_left
  · have hp' : pipeB k L = false := by simpa using hp
    have hR : lossR k L = (⟨#[]⟩, 40) := by unfold lossR; rw [if_neg hp]
    rw [hR]
    rw [hp'] at PV
    clear hp hp' hR
    go_enter Tryz.func22, Tryz.ntmps22
    go_wp2_with fail
    refine PV.out.mono ?_
    rintro e w1 ⟨hb1, rfl⟩
    go_wp2
    go_ret2
    exact ⟨hb1, rfl⟩
  rw [hp] at PV
  by_cases hb : rndB L = true
  rotate_left
  · have hb' : rndB L = false := by simpa using hb
    have hR : lossR k L = (⟨#[48]⟩, 0) := by unfold lossR; rw [if_pos hp, if_neg hb]
    rw [hR]
    rw [hb'] at SP
    clear hp hb hb' hR DV
    generalize rndS L = st at *
    go_enter Tryz.func22, Tryz.ntmps22
    go_wp2_with fail
    refine PV.out.mono ?_
    rintro e w1 ⟨hb1, rfl⟩
    go_wp2_with fail
    refine (SP.out w1 hb1).mono ?_
    rintro e w2 ⟨hb2, rfl⟩
    go_wp2
    go_ret2
    exact ⟨hb1.trans (hb2.mono hb1.size), rfl⟩
  have hR : lossR k L = (divV (rndS L) ⟨#[50]⟩, 0) := by unfold lossR; rw [if_pos hp, if_pos hb]
  rw [hR]
  rw [hb] at SP
  clear hp hb hR
  generalize divV (rndS L) ⟨#[50]⟩ = dd at *
  generalize rndS L = st at *
  go_enter Tryz.func22, Tryz.ntmps22
  go_wp2_with fail
  refine PV.out.mono ?_
  rintro e w1 ⟨hb1, rfl⟩
  go_wp2_with fail
  refine (SP.out w1 hb1).mono ?_
  rintro e w2 ⟨hb2, rfl⟩
  have hB2 := hb1.trans (hb2.mono hb1.size)
  go_wp2_with fail
  refine (DV.out w2 hB2).mono ?_
  rintro e w3 ⟨hb3, rfl⟩
  go_wp2
  go_ret2
  exact ⟨hB2.trans (hb3.mono hB2.size), rfl⟩
set_option maxRecDepth 100000 in
set_option maxHeartbeats 1600000 in
theorem steep_any (L : List Stg) (A : Option Addr) (c : Nat) (w : World) (h : Rd w w.heap.size A (srow L)) (hL : L.length ≤ maxLen) (z : Bool) (hz : z = true ↔ 10 < L.length ∨ ∃ x ∈ L, 200 < x.2.2.size) (hm : ∀ x ∈ L, x.2.2.size ≤ maxLen) :
    Calls Tryz.prog 20 #[.slice A L.length c] w fun e w' => w = w' ∧ e = .returned (.bool z) := by
  unfold maxLen at hm hL
  have HZ := Lib.hid hz
  clear hz
  by_cases hbig : 10 < L.length
  · have hzt : z = true := HZ.out.2 (.inl hbig)
    subst hzt
    clear hm
    go_enter Tryz.func20, Tryz.ntmps20
    go_wp2
    go_ret
    exact ⟨rfl, rfl⟩
  have HM := Lib.hid hm
  clear hm
  go_enter Tryz.func20, Tryz.ntmps20
  go_wp2_with fail
  go_loop [3] (fun i => ∃ k : Nat, k ≤ L.length ∧ i = .int .i64 k ∧ Hid (∀ x ∈ L.take k, x.2.2.size ≤ 200)) (fun i => L.length - (intOf i).toNat)
  case atStart => exact ⟨0, Nat.zero_le _, rfl, (fun x h => by simp at h)⟩
  case round =>
    obtain ⟨k, hk, rfl, H0⟩ := hrel
    rcases Nat.lt_or_ge k L.length with hlt | hge
    · obtain ⟨ad, rfl, hab, d1, d2, d3⟩ := h.stage (List.getElem?_eq_getElem hlt)
      have hmk := HM.out _ (List.getElem_mem hlt)
      have HN : Hid (L[k].2.2.size ≤ 200 → ∀ x ∈ L.take (k + 1), x.2.2.size ≤ 200) := fun h1 x hx => by
        rw [List.take_add_one, List.getElem?_eq_getElem hlt] at hx
        rcases List.mem_append.1 hx with h2 | h2
        · exact H0.out x h2
        · simp at h2; subst h2; exact h1
      have HY : Hid (200 < L[k].2.2.size → z = true) := fun h1 => HZ.out.2 (.inr ⟨_, List.getElem_mem hlt, h1⟩)
      have b1 : (0 : Int) ≤ (k : Int) := by omega
      have b2 : (k : Int) < (L.length : Int) := by omega
      generalize L[k] = y at *
      obtain ⟨y1, y2, y3⟩ := y
      simp only at d1 d2 d3 hmk HN HY
      by_cases hl : y3.size ≤ 200
      · have hl' : ¬ (200 : Int) < y3.size := by omega
        have HL := Lib.hid (HN.out hl)
        clear HN HY
        go_wp2
        go_round
        case rel => exact ⟨k + 1, by omega, by go_num, HL.out⟩
        case measure => simp [intOf]; omega
      · have hl' : (200 : Int) < y3.size := by omega
        have hzt : z = true := HY.out (by omega)
        subst hzt
        clear HN HY
        go_wp2
        go_ret
        exact ⟨rfl, rfl⟩
    · have hkl : k = L.length := by omega
      subst hkl
      have hzf : z = false := by
        cases hzz : z
        · rfl
        · rcases HZ.out.1 hzz with h | ⟨x, hx, h⟩
          · exact absurd h hbig
          · have := H0.out x (by rw [List.take_length]; exact hx)
            omega
      subst hzf
      go_wp2
      go_ret
      exact ⟨rfl, rfl⟩
end Go.Proofs.YtpkhgdnkkdhlcaaGreatDoor

