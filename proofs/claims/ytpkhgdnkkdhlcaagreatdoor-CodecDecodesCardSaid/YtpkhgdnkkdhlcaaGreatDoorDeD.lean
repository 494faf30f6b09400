/-
  Walks: what a pipeline decodes (the reference).
-/
import Derived.Test.YtpkhgdnkkdhlcaaGreatDoorDeP
import Derived.Test.YtpkhgdnkkdhlcaaGreatDoorGtR
import Derived.Test.YtpkhgdnkkdhlcaaGreatDoorHlX
namespace Go.Proofs.YtpkhgdnkkdhlcaaGreatDoor
open Go.RowKit Ar By

set_option maxRecDepth 100000 in
set_option maxHeartbeats 6400000 in
theorem rdecode_any (k n : Int) (C : List Stg) (b : List Nat) (A Ab : Option Addr) (cs cb : Nat) (w : World) (hC : Rd w w.heap.size A (srow C)) (hCl : C.length ≤ 1000000) (hsz : ∀ x ∈ C, x.2.2.size ≤ 4000000)
    (h : Rd w w.heap.size Ab (ints .u8 b)) (hb : Bytes b) (hL : b.length ≤ 1048576) (hc : b.length ≤ cb) :
    Calls Tryz.prog 28 #[.int .i64 k, .slice A C.length cs, .int .i64 n, .slice Ab b.length cb] w fun e w' => Below w.heap.size w w' ∧ ∃ v, e = .returned (.tuple #[v, .int .i64 (decR k C n b).2]) ∧ IsT w' w'.heap.size v (decR k C n b).1 := by
  have VA := Lib.hid (rpipe_any k C A cs w hC hCl hsz)
  cases hp : pipeB k C with
  | false =>
    rw [decR_stage hp]
    rw [hp] at VA
    clear hC h hb hL hc hsz
    go_enter Tryz.func28, Tryz.ntmps28
    go_wp2_with fail
    refine VA.out.mono ?_
    rintro e w1 ⟨hb1, rfl⟩
    go_wp2
    go_ret2
    exact ⟨hb1, _, rfl, IsT.nil _ _⟩
  | true =>
  rw [hp] at VA
  by_cases hn : 0 ≤ n ∧ n ≤ 4096
  rotate_left
  · rw [decR_arg hp hn]
    clear hC h hb hL hc hsz
    rcases Int.lt_or_le n 0 with h0 | h0
    · clear hn
      go_enter Tryz.func28, Tryz.ntmps28
      go_wp2_with fail
      refine VA.out.mono ?_
      rintro e w1 ⟨hb1, rfl⟩
      go_wp2
      go_ret2
      exact ⟨hb1, _, rfl, IsT.nil _ _⟩
    · have h4 : 4096 < n := by
        rcases Int.lt_or_le 4096 n with h | h
        · exact h
        · exact absurd ⟨h0, h⟩ hn
      clear hn
      go_enter Tryz.func28, Tryz.ntmps28
      go_wp2_with fail
      refine VA.out.mono ?_
      rintro e w1 ⟨hb1, rfl⟩
      go_wp2
      go_ret2
      exact ⟨hb1, _, rfl, IsT.nil _ _⟩
  have hn1 := hn.1
  have hn2 := hn.2
  by_cases h4 : b.length < 4
  · rw [decR_seal hp hn (fun hs => by have := hs.1; omega)]
    have h4I : (b.length : Int) < 4 := by omega
    clear hC h hb hL hc hsz hn h4
    go_enter Tryz.func28, Tryz.ntmps28
    go_wp2_with fail
    refine VA.out.mono ?_
    rintro e w1 ⟨hb1, rfl⟩
    go_wp2_with fail
    go_quiet (fail)
    go_wp2
    go_ret2
    exact ⟨below_drewN hb1 _, _, rfl, IsT.nil _ _⟩
  have h4I : ¬ (b.length : Int) < 4 := by omega
  obtain ⟨m, hm⟩ : ∃ m, m = b.length - 4 := ⟨_, rfl⟩
  have m1 : (b.length : Int) - 4 = (m : Int) := by omega
  have m2 : (m : Int) ≤ (cb : Int) := by omega
  have m5 : IntKind.i64.wrap (m : Int) = (m : Int) := IntWalk.i64_in _ (by omega)
  have htk : (b.take m).length = m := by rw [List.length_take]; omega
  have SE := Lib.hid (fun W (hW : Below w.heap.size w W) => rsealed_any Ab cb (b.take m) W (hb.take _) (by omega) (by have := ((h.take m).below hW).more hW.size; rw [← ints_take] at this; exact this))
  rw [htk] at SE
  have S2 := Lib.hid (fun W (hW : Below w.heap.size w W) => run_to_string (P := Tryz.prog) (h.below hW) 25 5 9 Tryz.underlying25 Tryz.underlying5 Tryz.underlying9 b.length cb rfl)
  obtain ⟨RE, hRE⟩ : ∃ r, decR k C n b = r := ⟨_, rfl⟩
  obtain ⟨hty, hc4, hstg⟩ := pipe_n hp
  obtain ⟨q, hq⟩ : ∃ q : Bool, q = true ↔ b.take m ++ sealB (b.take m) = b := by classical exact ⟨decide _, decide_eq_true_iff⟩
  have S3 := Lib.hid (bstr_beq ((hb.take m).app (sealB_bytes _)) hb hq)
  have hse := seal_app (b := b) (by omega)
  rw [← hm] at hse
  have HBAD : Hid (q = false → RE = ([], 5)) := fun hf => by
    rw [← hRE]
    exact decR_seal hp hn (fun hs => by rw [hq.2 (hse.2 hs)] at hf; cases hf)
  have HNO : Hid (q = true → unB C.reverse (b.take m) = none → RE = ([], 5)) := fun ht hu => by
    rw [← hRE]
    exact decR_none hp hn (hse.1 (hq.1 ht)) (by rw [← hm]; exact hu)
  have HGE : Hid (q = true → ∀ o, unB C.reverse (b.take m) = some o → RE = getG k n o) := fun ht o hu => by
    rw [← hRE]
    exact decR_get hp hn (hse.1 (hq.1 ht)) (by rw [← hm]; exact hu)
  have HFM := Lib.hid (fun o => getG_form (b := o) hty hn)
  rw [hRE]
  clear hRE hse hq hp hn h4 hty
  obtain ⟨R1, R2⟩ := RE
  have HM := Lib.hid hm
  clear hm
  have hbt := hb.take m
  have hrt := h.take m
  rw [← ints_take] at hrt
  go_enter Tryz.func28, Tryz.ntmps28
  go_wp2_with fail
  refine VA.out.mono ?_
  rintro e w1 ⟨hb1, rfl⟩
  clear VA
  go_wp2_with fail
  refine wp_region_held_drew (S := fun W => Below w.heap.size w W) (by kernel_rfl) (hb1.drew) (fun hS => ?_)
  generalize w1.drew = wd at *
  refine takeA (i := 0) (v := ?_) rfl (by kernel_rfl) (by kernel_rfl) (by kernel_rfl) (fun _ _ _ h => h) (by rfl) (by assumption) ?_ ?_
  rotate_left
  · intro w hSw; (try dsimp only at hSw); go_simp <;> with_reducible rfl
  try simp only [Act.put, List.setIfInBounds_toArray, List.set_cons_zero, List.set_cons_succ]
  refine takeA (i := 1) (v := ?_) rfl (by kernel_rfl) (by kernel_rfl) (by kernel_rfl) (fun _ _ _ h => h) (by rfl) (by assumption) ?_ ?_
  rotate_left
  · intro w hSw; (try dsimp only at hSw); go_simp <;> with_reducible rfl
  try simp only [Act.put, List.setIfInBounds_toArray, List.set_cons_zero, List.set_cons_succ]
  refine takeA (i := 2) (v := .bool false) rfl (by kernel_rfl) (by kernel_rfl) (by kernel_rfl) (fun _ _ _ h => h) (by rfl) (by assumption) ?_ ?_
  · intro w hSw; (try dsimp only at hSw); go_simp <;> first | with_reducible rfl | simp [*]
  try simp only [Act.put, List.setIfInBounds_toArray, List.set_cons_zero, List.set_cons_succ]
  refine takeA (i := 3) (v := ?_) rfl (by kernel_rfl) (by kernel_rfl) (by kernel_rfl) (fun _ _ _ h => h) (by rfl) (by assumption) ?_ ?_
  rotate_left
  · intro w hSw; (try dsimp only at hSw); go_simp <;> with_reducible rfl
  try simp only [Act.put, List.setIfInBounds_toArray, List.set_cons_zero, List.set_cons_succ]
  refine takeA (i := 4) (v := ?_) rfl (by kernel_rfl) (by kernel_rfl) (by kernel_rfl) (fun _ _ _ h => h) (by rfl) (by assumption) ?_ ?_
  rotate_left
  · intro w hSw; (try dsimp only at hSw); go_simp <;> with_reducible rfl
  try simp only [Act.put, List.setIfInBounds_toArray, List.set_cons_zero, List.set_cons_succ]
  refine takeA (i := 5) (v := ?_) rfl (by kernel_rfl) (by kernel_rfl) (by kernel_rfl) (fun _ _ _ h => h) (by rfl) (by assumption) ?_ ?_
  rotate_left
  · intro w hSw; (try dsimp only at hSw); go_simp <;> with_reducible rfl
  try simp only [Act.put, List.setIfInBounds_toArray, List.set_cons_zero, List.set_cons_succ]
  refine takeA (i := 6) (v := ?_) rfl (by kernel_rfl) (by kernel_rfl) (by kernel_rfl) (fun _ _ _ h => h) (by rfl) (by assumption) ?_ ?_
  rotate_left
  · intro w hSw; (try dsimp only at hSw); go_simp <;> with_reducible rfl
  try simp only [Act.put, List.setIfInBounds_toArray, List.set_cons_zero, List.set_cons_succ]
  refine takeA (i := 7) (v := .int .i64 (m : Int)) rfl (by kernel_rfl) (by kernel_rfl) (by kernel_rfl) (fun _ _ _ h => h) (by rfl) (by assumption) ?_ ?_
  · intro W hSw; (try dsimp only at hSw); go_simp <;> first | with_reducible rfl | simp [*]
  try simp only [Act.put, List.setIfInBounds_toArray, List.set_cons_zero, List.set_cons_succ]
  refine takeA (i := 8) (v := ?_) rfl (by kernel_rfl) (by kernel_rfl) (by kernel_rfl) (fun _ _ _ h => h) (by rfl) (by assumption) ?_ ?_
  rotate_left
  · intro w hSw; (try dsimp only at hSw); go_simp <;> with_reducible rfl
  try simp only [Act.put, List.setIfInBounds_toArray, List.set_cons_zero, List.set_cons_succ]
  refine takeA (i := 11) (v := ?_) rfl (by kernel_rfl) (by kernel_rfl) (by kernel_rfl) (fun _ _ _ h => h) (by rfl) (by assumption) ?_ ?_
  rotate_left
  · intro w hSw; (try dsimp only at hSw); go_simp <;> with_reducible rfl
  try simp only [Act.put, List.setIfInBounds_toArray, List.set_cons_zero, List.set_cons_succ]
  refine takeA (i := 12) (v := .string (bstr b)) rfl (by kernel_rfl) (by kernel_rfl) (by kernel_rfl) (fun _ _ _ h => h) (by rfl) (by assumption) ?_ ?_
  · intro W hSw; (try dsimp only at hSw); have q2 := S2.out W hSw; go_simp <;> first | with_reducible rfl | simp [q2]
  try simp only [Act.put, List.setIfInBounds_toArray, List.set_cons_zero, List.set_cons_succ]
  refine stepA (i := 9) rfl (by kernel_rfl) (fun K0 hK0 => ?_)
  rw [if_pos (by rfl)]
  go_simp
  refine (SE.out wd hS).mono ?_
  rintro e w2 ⟨hb2, u, rfl, A2, c2, rfl, hc2, hr2⟩
  dsimp only
  have hB2 := hS.trans (hb2.mono hS.size)
  refine hK0.out _ _ hB2 (fun _ => ?_)
  clear hK0 K0
  try simp only [Act.put, List.setIfInBounds_toArray, List.set_cons_zero, List.set_cons_succ]
  have s1 := run_to_string (P := Tryz.prog) hr2 25 5 9 Tryz.underlying25 Tryz.underlying5 Tryz.underlying9 (m + (sealB (b.take m)).length) c2 (by rw [List.length_append, htk])
  refine stepA (i := 10) rfl (by kernel_rfl) (fun K0 hK0 => ?_)
  rw [if_pos (by rfl)]
  go_simp
  try simp only [s1, Result.andThen_ok]
  try go_upon
  try go_simp
  refine hK0.out _ _ hB2 (fun _ => ?_)
  clear hK0 K0
  try simp only [Act.put, List.setIfInBounds_toArray, List.set_cons_zero, List.set_cons_succ]
  refine takeA (i := 13) (v := ?_) rfl (by kernel_rfl) (by kernel_rfl) (by kernel_rfl) (fun _ _ _ h => h) (by rfl) (by assumption) ?_ ?_
  rotate_left
  · intro w hSw; (try dsimp only at hSw); go_simp <;> with_reducible rfl
  try simp only [Act.put, List.setIfInBounds_toArray, List.set_cons_zero, List.set_cons_succ]
  refine takeA (i := 14) (v := ?_) rfl (by kernel_rfl) (by kernel_rfl) (by kernel_rfl) (fun _ _ _ h => h) (by rfl) (by assumption) ?_ ?_
  rotate_left
  · intro w hSw; (try dsimp only at hSw); go_simp <;> with_reducible rfl
  try simp only [Act.put, List.setIfInBounds_toArray, List.set_cons_zero, List.set_cons_succ]
  refine wpAnyH_done (by kernel_rfl) ?_ _
  have s3 := S3.out
  clear s1 S2 S3 SE hr2 hb2 hS hb1
  rw [s3]
  clear s3
  cases q with
  | false =>
    have hRE := HBAD.out rfl
    injection hRE with hR1 hR2
    subst hR1
    subst hR2
    clear HBAD HNO HGE HFM hC hrt h
    go_wp2
    go_ret2
    exact ⟨hB2, _, rfl, IsT.nil _ _⟩
  | true =>
  have HNO' := Lib.hid (HNO.out rfl)
  have HGE' := Lib.hid (HGE.out rfl)
  have hr0 := (hrt.below hB2).more hB2.size
  have hmb : m ≤ 1048576 := by omega
  clear HBAD HNO HGE
  generalize hT0 : b.take m = b0 at *
  clear hT0 hc2
  simp only [Bool.not_true]
  generalize m + (sealB b0).length = z1
  generalize bstr (b0 ++ sealB b0) = z2
  generalize bstr b = z3
  go_wp2_with fail
  go_loopw [3, 10] (fun bv iv wr => ∃ (j : Nat) (cur : List Nat) (Av : Option Addr) (cv : Nat), j ≤ C.length ∧ iv = .int .i64 ((C.length : Int) - 1 - j) ∧ bv = .slice Av cur.length cv ∧ Hid (unB (C.reverse.take j) b0 = some cur) ∧ Rd wr wr.heap.size Av (ints .u8 cur) ∧ cur.length ≤ cv ∧ Below w.heap.size w wr) (fun _ iv _ => (intOf iv + 1).toNat)
  case atStart => exact ⟨0, b0, Ab, cb, Nat.zero_le _, by go_num, by rw [htk], rfl, hr0, by omega, hB2⟩
  case round =>
    obtain ⟨j, cur, Av, cv, hj, rfl, rfl, HU, hrd, hcv, hB⟩ := hrel
    obtain ⟨hbc, hlc⟩ := unB_ok _ hbt (by omega) HU.out
    by_cases hlt : j < C.length
    · obtain ⟨i, hi⟩ : ∃ i, i = C.length - 1 - j := ⟨_, rfl⟩
      have hii : (C.length : Int) - 1 - j = (i : Int) := by omega
      have hil : i < C.length := by omega
      obtain ⟨ad, rfl, hab, d1, d2, d3⟩ := (hC.below hB).stage (List.getElem?_eq_getElem hil)
      have hrv : C.reverse.take (j + 1) = C.reverse.take j ++ [C[i]] := by
        rw [List.take_succ_eq_append_getElem (by rw [List.length_reverse]; exact hlt), List.getElem_reverse]
        simp only [hi]
      have RB := Lib.hid (rback_any C[i] Av cv cur wr (hstg _ (List.getElem_mem hil)) hbc hcv hlc hrd)
      have HSN : Hid (∀ o, bkS C[i] cur = some o → unB (C.reverse.take (j + 1)) b0 = some o) := fun o ho => by rw [hrv, unB_snoc, HU.out]; exact ho
      have HNN : Hid (bkS C[i] cur = none → unB C.reverse b0 = none) := fun ho => by
        have h1 : unB (C.reverse.take (j + 1)) b0 = none := by rw [hrv, unB_snoc, HU.out]; exact ho
        rw [← List.take_append_drop (j + 1) C.reverse]
        exact unB_app_none h1
      have b1 : (0 : Int) ≤ (i : Int) := by omega
      have b2 : (i : Int) < (C.length : Int) := by omega
      have HI := Lib.hid hi
      rw [hii]
      clear hi hii hrv HU
      unfold stgV at RB
      generalize C[i] = x at *
      obtain ⟨x1, x2, x3⟩ := x
      simp only at d1 d2 d3
      dsimp only at RB
      go_wp2_with fail
      refine RB.out.mono ?_
      rintro e w5 ⟨hb5, ⟨o, v, ho, rfl, A5, c5, rfl, hc5, hr5⟩ | ⟨ho, v, g, hg0, rfl⟩⟩
      · have HU5 := Lib.hid (HSN.out o ho)
        have hB5 := hB.trans (hb5.mono hB.size)
        clear RB HSN HNN ho
        go_wp2
        go_roundw
        case rel => exact ⟨j + 1, o, A5, c5, by omega, (by have := HI.out; show Value.int _ _ = Value.int _ _; congr 1; omega), rfl, HU5, hr5, hc5, hB5⟩
        case measure => simp [intOf]
      · have hRE := HNO'.out (HNN.out ho)
        have hg1 : (g != 0) = true := by simp [hg0]
        have hB5 := hB.trans (hb5.mono hB.size)
        injection hRE with hR1 hR2
        subst hR1
        subst hR2
        clear RB HSN HNN ho HNO' HGE' HFM
        go_wp2
        go_ret2
        exact ⟨hB5, _, rfl, IsT.nil _ _⟩
    · obtain rfl : j = C.length := by omega
      have e1 : (C.length : Int) - 1 - (C.length : Int) = -1 := by omega
      rw [e1]
      have hu := HU.out
      rw [List.take_of_length_le (by rw [List.length_reverse]; exact Nat.le_refl _)] at hu
      have hRE := HGE'.out cur hu
      have GT0 := rcget_any k n Av cv cur wr hrd hbc (by omega) hcv
      have HF0 := HFM.out cur
      rw [← hRE] at GT0 HF0
      have GT := Lib.hid GT0
      have HF := Lib.hid HF0
      clear HGE' HNO' HFM HU hu hrd hC hRE GT0 HF0
      dsimp only at GT HF ⊢
      go_wp2_with fail
      refine GT.out.mono ?_
      rintro e w5 ⟨hb5, v, rfl, hv⟩
      obtain ⟨A5, c5, rfl, -⟩ := hv.form
      have hB5 := hB.trans (hb5.mono hB.size)
      rcases HF.out with h0 | h0
      · subst h0
        have HV := Lib.hid hv
        clear GT HF hv
        go_wp2
        go_ret2
        exact ⟨hB5, _, rfl, HV.out⟩
      · injection h0 with h1 h2
        subst h1
        subst h2
        clear GT HF hv
        go_wp2
        go_ret2
        exact ⟨hB5, _, rfl, IsT.nil _ _⟩
end Go.Proofs.YtpkhgdnkkdhlcaaGreatDoor

