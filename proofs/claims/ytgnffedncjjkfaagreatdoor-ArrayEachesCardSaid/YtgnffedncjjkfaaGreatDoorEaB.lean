/-
  Walks: array.operate, the reference's Operation.
-/
import Derived.Test.YtgnffedncjjkfaaGreatDoorEaA
namespace Go.Proofs.YtgnffedncjjkfaaGreatDoor
open Go.RowKit Ix Ar

set_option maxRecDepth 100000 in
set_option maxHeartbeats 3200000 in
theorem poperate_any (op : Int) (s t : ByteArray) (w : World) (hs : s.size ≤ 4000000) (ht : t.size ≤ 4000000) (he : Env w) (her : EnvR w) (h1 : 1 ≤ op) (h10 : op ≤ 10) :
    Calls Tryz.prog 101 #[.int .i64 op, .string s, .string t] w fun e w' => Below w.heap.size w w' ∧ e = .returned (.string (opV op s t)) := by
  obtain h | h | h | h | h | h | h | h | h | h : op = 1 ∨ op = 2 ∨ op = 3 ∨ op = 4 ∨ op = 5 ∨ op = 6 ∨ op = 7 ∨ op = 8 ∨ op = 9 ∨ op = 10 := by omega
  all_goals (subst h; clear h1 h10)
  · have CC := Lib.hid (paddv_any s t w hs ht he her)
    have e0 : opV 1 s t = binV (fun p q => p + q) s t := by simp [opV]
    rw [e0]
    generalize binV (fun p q => p + q) s t = R at *
    clear e0 hs ht he her
    go_enter Tryz.func101, Tryz.ntmps101
    go_wp2_with fail
    refine CC.out.mono ?_
    rintro e w1 ⟨hb1, rfl⟩
    go_wp2
    go_ret
    exact ⟨hb1, rfl⟩
  · have CC := Lib.hid (psubv_any s t w hs ht he her)
    have e0 : opV 2 s t = binV (fun p q => p - q) s t := by simp [opV]
    rw [e0]
    generalize binV (fun p q => p - q) s t = R at *
    clear e0 hs ht he her
    go_enter Tryz.func101, Tryz.ntmps101
    go_wp2_with fail
    refine CC.out.mono ?_
    rintro e w1 ⟨hb1, rfl⟩
    go_wp2
    go_ret
    exact ⟨hb1, rfl⟩
  · have CC := Lib.hid (pmulv_any s t w hs ht he her)
    have e0 : opV 3 s t = binV (fun p q => p * q) s t := by simp [opV]
    rw [e0]
    generalize binV (fun p q => p * q) s t = R at *
    clear e0 hs ht he her
    go_enter Tryz.func101, Tryz.ntmps101
    go_wp2_with fail
    refine CC.out.mono ?_
    rintro e w1 ⟨hb1, rfl⟩
    go_wp2
    go_ret
    exact ⟨hb1, rfl⟩
  · have CC := Lib.hid (pdivv_any s t w hs ht he her)
    have e0 : opV 4 s t = divV s t := by simp [opV]
    rw [e0]
    generalize divV s t = R at *
    clear e0 hs ht he her
    go_enter Tryz.func101, Tryz.ntmps101
    go_wp2_with fail
    refine CC.out.mono ?_
    rintro e w1 ⟨hb1, rfl⟩
    go_wp2
    go_ret
    exact ⟨hb1, rfl⟩
  · obtain ⟨q, hq⟩ : ∃ q, (numB s && numB t) = q := ⟨_, rfl⟩
    have CC := Lib.hid (pcompare_any s t w hs ht he q hq)
    have e0 : opV 5 s t = if q = false then ⟨#[]⟩ else (if cmpT s t < 0 then s else t) := by rw [← hq]; simp only [opV]; simp
    have HST : Hid (q = true → cmpT s t = 0 → s = t) := fun h h0 => cmpT_eq (by rw [hq]; exact h) h0
    obtain ⟨R, hR⟩ : ∃ R, R = opV 5 s t := ⟨_, rfl⟩
    rw [← hR]
    rw [e0] at hR
    replace hR := Lib.hid hR
    clear e0 hs ht hq he her
    change Hid (Calls _ _ _ _ fun e w' => Below w.heap.size w w' ∧ ∃ c : Int, e = .returned (.tuple #[.int .i64 c, .bool q]) ∧ (q = true → c = cmpT s t)) at CC
    generalize cmpT s t = cc at *
    go_enter Tryz.func101, Tryz.ntmps101
    go_wp2_with fail
    refine CC.out.mono ?_
    rintro e w1 ⟨hb1, c, rfl, hc⟩
    cases q
    · have e1 := hR.out
      rw [if_pos rfl] at e1
      subst e1
      clear CC hc HST hR
      go_wp2
      go_ret
      exact ⟨hb1, rfl⟩
    have e1 := hR.out
    rw [if_neg (by decide)] at e1
    obtain rfl := hc (by trivial)
    clear CC hc hR
    have HS := Lib.hid (HST.out (by trivial))
    clear HST
    by_cases hlt : c < 0
    · have h5 : c ≤ 0 := by omega
      have h6 : ¬ 0 ≤ c := by omega
      rw [if_pos hlt] at e1
      subst e1
      go_wp2
      go_ret
      exact ⟨hb1, rfl⟩
    · rw [if_neg hlt] at e1
      subst e1
      by_cases h0 : c = 0
      · have e2 := HS.out h0
        subst h0
        subst e2
        clear HS hlt
        go_wp2
        go_ret
        exact ⟨hb1, rfl⟩
      · have h5 : ¬ c ≤ 0 := by omega
        have h6 : 0 ≤ c := by omega
        have hd : (!decide (c < 0)) = true := by simp; omega
        clear h0 HS
        go_wp2
        go_ret
        exact ⟨hb1, rfl⟩
  · obtain ⟨q, hq⟩ : ∃ q, (numB s && numB t) = q := ⟨_, rfl⟩
    have CC := Lib.hid (pcompare_any s t w hs ht he q hq)
    have e0 : opV 6 s t = if q = false then ⟨#[]⟩ else (if cmpT s t < 0 then t else s) := by rw [← hq]; simp only [opV]; simp
    have HST : Hid (q = true → cmpT s t = 0 → s = t) := fun h h0 => cmpT_eq (by rw [hq]; exact h) h0
    obtain ⟨R, hR⟩ : ∃ R, R = opV 6 s t := ⟨_, rfl⟩
    rw [← hR]
    rw [e0] at hR
    replace hR := Lib.hid hR
    clear e0 hs ht hq he her
    change Hid (Calls _ _ _ _ fun e w' => Below w.heap.size w w' ∧ ∃ c : Int, e = .returned (.tuple #[.int .i64 c, .bool q]) ∧ (q = true → c = cmpT s t)) at CC
    generalize cmpT s t = cc at *
    go_enter Tryz.func101, Tryz.ntmps101
    go_wp2_with fail
    refine CC.out.mono ?_
    rintro e w1 ⟨hb1, c, rfl, hc⟩
    cases q
    · have e1 := hR.out
      rw [if_pos rfl] at e1
      subst e1
      clear CC hc HST hR
      go_wp2
      go_ret
      exact ⟨hb1, rfl⟩
    have e1 := hR.out
    rw [if_neg (by decide)] at e1
    obtain rfl := hc (by trivial)
    clear CC hc hR
    have HS := Lib.hid (HST.out (by trivial))
    clear HST
    by_cases hlt : c < 0
    · have h5 : c ≤ 0 := by omega
      have h6 : ¬ 0 ≤ c := by omega
      rw [if_pos hlt] at e1
      subst e1
      go_wp2
      go_ret
      exact ⟨hb1, rfl⟩
    · rw [if_neg hlt] at e1
      subst e1
      by_cases h0 : c = 0
      · have e2 := HS.out h0
        subst h0
        subst e2
        clear HS hlt
        go_wp2
        go_ret
        exact ⟨hb1, rfl⟩
      · have h5 : ¬ c ≤ 0 := by omega
        have h6 : 0 ≤ c := by omega
        have hd : (!decide (c < 0)) = true := by simp; omega
        clear h0 HS
        go_wp2
        go_ret
        exact ⟨hb1, rfl⟩
  · obtain ⟨q, hq⟩ : ∃ q, (numB s && numB t) = q := ⟨_, rfl⟩
    have CC := Lib.hid (pcompare_any s t w hs ht he q hq)
    have e0 : opV 7 s t = if q = false then ⟨#[]⟩ else truT (decide (cmpT s t = 0)) := by rw [← hq]; simp only [opV]; simp
    have HST : Hid (q = true → cmpT s t = 0 → s = t) := fun h h0 => cmpT_eq (by rw [hq]; exact h) h0
    obtain ⟨R, hR⟩ : ∃ R, R = opV 7 s t := ⟨_, rfl⟩
    rw [← hR]
    rw [e0] at hR
    replace hR := Lib.hid hR
    clear e0 hs ht hq he her
    change Hid (Calls _ _ _ _ fun e w' => Below w.heap.size w w' ∧ ∃ c : Int, e = .returned (.tuple #[.int .i64 c, .bool q]) ∧ (q = true → c = cmpT s t)) at CC
    generalize cmpT s t = cc at *
    go_enter Tryz.func101, Tryz.ntmps101
    go_wp2_with fail
    refine CC.out.mono ?_
    rintro e w1 ⟨hb1, c, rfl, hc⟩
    cases q
    · have e1 := hR.out
      rw [if_pos rfl] at e1
      subst e1
      clear CC hc HST hR
      go_wp2
      go_ret
      exact ⟨hb1, rfl⟩
    have e1 := hR.out
    rw [if_neg (by decide)] at e1
    obtain rfl := hc (by trivial)
    clear CC hc hR
    subst e1
    clear HST
    go_wp2_with fail
    refine (ptruth_any _ w1).mono ?_
    rintro e w2 ⟨rfl, rfl⟩
    go_wp2
    go_ret
    exact ⟨hb1, by first | rfl | simp⟩
  · obtain ⟨q, hq⟩ : ∃ q, (numB s && numB t) = q := ⟨_, rfl⟩
    have CC := Lib.hid (pcompare_any s t w hs ht he q hq)
    have e0 : opV 8 s t = if q = false then ⟨#[]⟩ else truT (decide (cmpT s t < 0)) := by rw [← hq]; simp only [opV]; simp
    have HST : Hid (q = true → cmpT s t = 0 → s = t) := fun h h0 => cmpT_eq (by rw [hq]; exact h) h0
    obtain ⟨R, hR⟩ : ∃ R, R = opV 8 s t := ⟨_, rfl⟩
    rw [← hR]
    rw [e0] at hR
    replace hR := Lib.hid hR
    clear e0 hs ht hq he her
    change Hid (Calls _ _ _ _ fun e w' => Below w.heap.size w w' ∧ ∃ c : Int, e = .returned (.tuple #[.int .i64 c, .bool q]) ∧ (q = true → c = cmpT s t)) at CC
    generalize cmpT s t = cc at *
    go_enter Tryz.func101, Tryz.ntmps101
    go_wp2_with fail
    refine CC.out.mono ?_
    rintro e w1 ⟨hb1, c, rfl, hc⟩
    cases q
    · have e1 := hR.out
      rw [if_pos rfl] at e1
      subst e1
      clear CC hc HST hR
      go_wp2
      go_ret
      exact ⟨hb1, rfl⟩
    have e1 := hR.out
    rw [if_neg (by decide)] at e1
    obtain rfl := hc (by trivial)
    clear CC hc hR
    subst e1
    clear HST
    go_wp2_with fail
    refine (ptruth_any _ w1).mono ?_
    rintro e w2 ⟨rfl, rfl⟩
    go_wp2
    go_ret
    exact ⟨hb1, by first | rfl | simp⟩
  · obtain ⟨q, hq⟩ : ∃ q, (numB s && numB t) = q := ⟨_, rfl⟩
    have CC := Lib.hid (pcompare_any s t w hs ht he q hq)
    have e0 : opV 9 s t = if q = false then ⟨#[]⟩ else truT (decide (cmpT s t ≤ 0)) := by rw [← hq]; simp only [opV]; simp
    have HST : Hid (q = true → cmpT s t = 0 → s = t) := fun h h0 => cmpT_eq (by rw [hq]; exact h) h0
    obtain ⟨R, hR⟩ : ∃ R, R = opV 9 s t := ⟨_, rfl⟩
    rw [← hR]
    rw [e0] at hR
    replace hR := Lib.hid hR
    clear e0 hs ht hq he her
    change Hid (Calls _ _ _ _ fun e w' => Below w.heap.size w w' ∧ ∃ c : Int, e = .returned (.tuple #[.int .i64 c, .bool q]) ∧ (q = true → c = cmpT s t)) at CC
    generalize cmpT s t = cc at *
    go_enter Tryz.func101, Tryz.ntmps101
    go_wp2_with fail
    refine CC.out.mono ?_
    rintro e w1 ⟨hb1, c, rfl, hc⟩
    cases q
    · have e1 := hR.out
      rw [if_pos rfl] at e1
      subst e1
      clear CC hc HST hR
      go_wp2
      go_ret
      exact ⟨hb1, rfl⟩
    have e1 := hR.out
    rw [if_neg (by decide)] at e1
    obtain rfl := hc (by trivial)
    clear CC hc hR
    subst e1
    clear HST
    go_wp2_with fail
    refine (ptruth_any _ w1).mono ?_
    rintro e w2 ⟨rfl, rfl⟩
    go_wp2
    go_ret
    exact ⟨hb1, by first | rfl | simp⟩
  · have e0 : opV 10 s t = if s = ⟨#[]⟩ then t else s := by simp [opV]
    rw [e0]
    clear e0 hs ht he her
    by_cases hse : s = ⟨#[]⟩
    · subst hse
      rw [if_pos rfl]
      go_enter Tryz.func101, Tryz.ntmps101
      go_wp2
      go_ret
      exact ⟨Below.refl _ _, rfl⟩
    · have hsn : (s.toList == []) = false := by
        rw [ByteArray.toList_eq, beq_eq_false_iff_ne]
        exact fun h0 => hse (ba_list h0)
      have hsn2 : (s.toList != []) = true := by rw [bne, hsn]; rfl
      rw [if_neg hse]
      go_enter Tryz.func101, Tryz.ntmps101
      go_wp2
      go_ret
      exact ⟨Below.refl _ _, rfl⟩
set_option maxRecDepth 100000 in
set_option maxHeartbeats 3200000 in
theorem roperation_any (op : Int) (s t : ByteArray) (w : World) (hs : s.size ≤ 4000000) (ht : t.size ≤ 4000000) (h1 : 1 ≤ op) (h10 : op ≤ 10) :
    Calls Tryz.prog 102 #[.int .i64 op, .string s, .string t] w fun e w' => Below w.heap.size w w' ∧ e = .returned (.string (opV op s t)) := by
  obtain h | h | h | h | h | h | h | h | h | h : op = 1 ∨ op = 2 ∨ op = 3 ∨ op = 4 ∨ op = 5 ∨ op = 6 ∨ op = 7 ∨ op = 8 ∨ op = 9 ∨ op = 10 := by omega
  all_goals (subst h; clear h1 h10)
  · have CC := Lib.hid (raddv_any s t w hs ht)
    have e0 : opV 1 s t = binV (fun p q => p + q) s t := by simp [opV]
    rw [e0]
    generalize binV (fun p q => p + q) s t = R at *
    clear e0 hs ht
    go_enter Tryz.func102, Tryz.ntmps102
    go_wp2_with fail
    refine CC.out.mono ?_
    rintro e w1 ⟨hb1, rfl⟩
    go_wp2
    go_ret
    exact ⟨hb1, rfl⟩
  · have CC := Lib.hid (rsubv_any s t w hs ht)
    have e0 : opV 2 s t = binV (fun p q => p - q) s t := by simp [opV]
    rw [e0]
    generalize binV (fun p q => p - q) s t = R at *
    clear e0 hs ht
    go_enter Tryz.func102, Tryz.ntmps102
    go_wp2_with fail
    refine CC.out.mono ?_
    rintro e w1 ⟨hb1, rfl⟩
    go_wp2
    go_ret
    exact ⟨hb1, rfl⟩
  · have CC := Lib.hid (rmulv_any s t w hs ht)
    have e0 : opV 3 s t = binV (fun p q => p * q) s t := by simp [opV]
    rw [e0]
    generalize binV (fun p q => p * q) s t = R at *
    clear e0 hs ht
    go_enter Tryz.func102, Tryz.ntmps102
    go_wp2_with fail
    refine CC.out.mono ?_
    rintro e w1 ⟨hb1, rfl⟩
    go_wp2
    go_ret
    exact ⟨hb1, rfl⟩
  · have CC := Lib.hid (rdivv_any s t w hs ht)
    have e0 : opV 4 s t = divV s t := by simp [opV]
    rw [e0]
    generalize divV s t = R at *
    clear e0 hs ht
    go_enter Tryz.func102, Tryz.ntmps102
    go_wp2_with fail
    refine CC.out.mono ?_
    rintro e w1 ⟨hb1, rfl⟩
    go_wp2
    go_ret
    exact ⟨hb1, rfl⟩
  · obtain ⟨q, hq⟩ : ∃ q, (numB s && numB t) = q := ⟨_, rfl⟩
    have CC := Lib.hid (rcompare_any s t w hs ht q hq)
    have e0 : opV 5 s t = if q = false then ⟨#[]⟩ else (if cmpT s t < 0 then s else t) := by rw [← hq]; simp only [opV]; simp
    have HST : Hid (q = true → cmpT s t = 0 → s = t) := fun h h0 => cmpT_eq (by rw [hq]; exact h) h0
    obtain ⟨R, hR⟩ : ∃ R, R = opV 5 s t := ⟨_, rfl⟩
    rw [← hR]
    rw [e0] at hR
    replace hR := Lib.hid hR
    clear e0 hs ht hq
    change Hid (Calls _ _ _ _ fun e w' => Below w.heap.size w w' ∧ ∃ c : Int, e = .returned (.tuple #[.int .i64 c, .bool q]) ∧ (q = true → c = cmpT s t)) at CC
    generalize cmpT s t = cc at *
    go_enter Tryz.func102, Tryz.ntmps102
    go_wp2_with fail
    refine CC.out.mono ?_
    rintro e w1 ⟨hb1, c, rfl, hc⟩
    cases q
    · have e1 := hR.out
      rw [if_pos rfl] at e1
      subst e1
      clear CC hc HST hR
      go_wp2
      go_ret
      exact ⟨hb1, rfl⟩
    have e1 := hR.out
    rw [if_neg (by decide)] at e1
    obtain rfl := hc (by trivial)
    clear CC hc hR
    have HS := Lib.hid (HST.out (by trivial))
    clear HST
    by_cases hlt : c < 0
    · have h5 : c ≤ 0 := by omega
      have h6 : ¬ 0 ≤ c := by omega
      rw [if_pos hlt] at e1
      subst e1
      go_wp2
      go_ret
      exact ⟨hb1, rfl⟩
    · rw [if_neg hlt] at e1
      subst e1
      by_cases h0 : c = 0
      · have e2 := HS.out h0
        subst h0
        subst e2
        clear HS hlt
        go_wp2
        go_ret
        exact ⟨hb1, rfl⟩
      · have h5 : ¬ c ≤ 0 := by omega
        have h6 : 0 ≤ c := by omega
        have hd : (!decide (c < 0)) = true := by simp; omega
        clear h0 HS
        go_wp2
        go_ret
        exact ⟨hb1, rfl⟩
  · obtain ⟨q, hq⟩ : ∃ q, (numB s && numB t) = q := ⟨_, rfl⟩
    have CC := Lib.hid (rcompare_any s t w hs ht q hq)
    have e0 : opV 6 s t = if q = false then ⟨#[]⟩ else (if cmpT s t < 0 then t else s) := by rw [← hq]; simp only [opV]; simp
    have HST : Hid (q = true → cmpT s t = 0 → s = t) := fun h h0 => cmpT_eq (by rw [hq]; exact h) h0
    obtain ⟨R, hR⟩ : ∃ R, R = opV 6 s t := ⟨_, rfl⟩
    rw [← hR]
    rw [e0] at hR
    replace hR := Lib.hid hR
    clear e0 hs ht hq
    change Hid (Calls _ _ _ _ fun e w' => Below w.heap.size w w' ∧ ∃ c : Int, e = .returned (.tuple #[.int .i64 c, .bool q]) ∧ (q = true → c = cmpT s t)) at CC
    generalize cmpT s t = cc at *
    go_enter Tryz.func102, Tryz.ntmps102
    go_wp2_with fail
    refine CC.out.mono ?_
    rintro e w1 ⟨hb1, c, rfl, hc⟩
    cases q
    · have e1 := hR.out
      rw [if_pos rfl] at e1
      subst e1
      clear CC hc HST hR
      go_wp2
      go_ret
      exact ⟨hb1, rfl⟩
    have e1 := hR.out
    rw [if_neg (by decide)] at e1
    obtain rfl := hc (by trivial)
    clear CC hc hR
    have HS := Lib.hid (HST.out (by trivial))
    clear HST
    by_cases hlt : c < 0
    · have h5 : c ≤ 0 := by omega
      have h6 : ¬ 0 ≤ c := by omega
      rw [if_pos hlt] at e1
      subst e1
      go_wp2
      go_ret
      exact ⟨hb1, rfl⟩
    · rw [if_neg hlt] at e1
      subst e1
      by_cases h0 : c = 0
      · have e2 := HS.out h0
        subst h0
        subst e2
        clear HS hlt
        go_wp2
        go_ret
        exact ⟨hb1, rfl⟩
      · have h5 : ¬ c ≤ 0 := by omega
        have h6 : 0 ≤ c := by omega
        have hd : (!decide (c < 0)) = true := by simp; omega
        clear h0 HS
        go_wp2
        go_ret
        exact ⟨hb1, rfl⟩
  · obtain ⟨q, hq⟩ : ∃ q, (numB s && numB t) = q := ⟨_, rfl⟩
    have CC := Lib.hid (rcompare_any s t w hs ht q hq)
    have e0 : opV 7 s t = if q = false then ⟨#[]⟩ else truT (decide (cmpT s t = 0)) := by rw [← hq]; simp only [opV]; simp
    have HST : Hid (q = true → cmpT s t = 0 → s = t) := fun h h0 => cmpT_eq (by rw [hq]; exact h) h0
    obtain ⟨R, hR⟩ : ∃ R, R = opV 7 s t := ⟨_, rfl⟩
    rw [← hR]
    rw [e0] at hR
    replace hR := Lib.hid hR
    clear e0 hs ht hq
    change Hid (Calls _ _ _ _ fun e w' => Below w.heap.size w w' ∧ ∃ c : Int, e = .returned (.tuple #[.int .i64 c, .bool q]) ∧ (q = true → c = cmpT s t)) at CC
    generalize cmpT s t = cc at *
    go_enter Tryz.func102, Tryz.ntmps102
    go_wp2_with fail
    refine CC.out.mono ?_
    rintro e w1 ⟨hb1, c, rfl, hc⟩
    cases q
    · have e1 := hR.out
      rw [if_pos rfl] at e1
      subst e1
      clear CC hc HST hR
      go_wp2
      go_ret
      exact ⟨hb1, rfl⟩
    have e1 := hR.out
    rw [if_neg (by decide)] at e1
    obtain rfl := hc (by trivial)
    clear CC hc hR
    subst e1
    clear HST
    go_wp2_with fail
    refine (rtruth_any _ w1).mono ?_
    rintro e w2 ⟨rfl, rfl⟩
    go_wp2
    go_ret
    exact ⟨hb1, by first | rfl | simp⟩
  · obtain ⟨q, hq⟩ : ∃ q, (numB s && numB t) = q := ⟨_, rfl⟩
    have CC := Lib.hid (rcompare_any s t w hs ht q hq)
    have e0 : opV 8 s t = if q = false then ⟨#[]⟩ else truT (decide (cmpT s t < 0)) := by rw [← hq]; simp only [opV]; simp
    have HST : Hid (q = true → cmpT s t = 0 → s = t) := fun h h0 => cmpT_eq (by rw [hq]; exact h) h0
    obtain ⟨R, hR⟩ : ∃ R, R = opV 8 s t := ⟨_, rfl⟩
    rw [← hR]
    rw [e0] at hR
    replace hR := Lib.hid hR
    clear e0 hs ht hq
    change Hid (Calls _ _ _ _ fun e w' => Below w.heap.size w w' ∧ ∃ c : Int, e = .returned (.tuple #[.int .i64 c, .bool q]) ∧ (q = true → c = cmpT s t)) at CC
    generalize cmpT s t = cc at *
    go_enter Tryz.func102, Tryz.ntmps102
    go_wp2_with fail
    refine CC.out.mono ?_
    rintro e w1 ⟨hb1, c, rfl, hc⟩
    cases q
    · have e1 := hR.out
      rw [if_pos rfl] at e1
      subst e1
      clear CC hc HST hR
      go_wp2
      go_ret
      exact ⟨hb1, rfl⟩
    have e1 := hR.out
    rw [if_neg (by decide)] at e1
    obtain rfl := hc (by trivial)
    clear CC hc hR
    subst e1
    clear HST
    go_wp2_with fail
    refine (rtruth_any _ w1).mono ?_
    rintro e w2 ⟨rfl, rfl⟩
    go_wp2
    go_ret
    exact ⟨hb1, by first | rfl | simp⟩
  · obtain ⟨q, hq⟩ : ∃ q, (numB s && numB t) = q := ⟨_, rfl⟩
    have CC := Lib.hid (rcompare_any s t w hs ht q hq)
    have e0 : opV 9 s t = if q = false then ⟨#[]⟩ else truT (decide (cmpT s t ≤ 0)) := by rw [← hq]; simp only [opV]; simp
    have HST : Hid (q = true → cmpT s t = 0 → s = t) := fun h h0 => cmpT_eq (by rw [hq]; exact h) h0
    obtain ⟨R, hR⟩ : ∃ R, R = opV 9 s t := ⟨_, rfl⟩
    rw [← hR]
    rw [e0] at hR
    replace hR := Lib.hid hR
    clear e0 hs ht hq
    change Hid (Calls _ _ _ _ fun e w' => Below w.heap.size w w' ∧ ∃ c : Int, e = .returned (.tuple #[.int .i64 c, .bool q]) ∧ (q = true → c = cmpT s t)) at CC
    generalize cmpT s t = cc at *
    go_enter Tryz.func102, Tryz.ntmps102
    go_wp2_with fail
    refine CC.out.mono ?_
    rintro e w1 ⟨hb1, c, rfl, hc⟩
    cases q
    · have e1 := hR.out
      rw [if_pos rfl] at e1
      subst e1
      clear CC hc HST hR
      go_wp2
      go_ret
      exact ⟨hb1, rfl⟩
    have e1 := hR.out
    rw [if_neg (by decide)] at e1
    obtain rfl := hc (by trivial)
    clear CC hc hR
    subst e1
    clear HST
    go_wp2_with fail
    refine (rtruth_any _ w1).mono ?_
    rintro e w2 ⟨rfl, rfl⟩
    go_wp2
    go_ret
    exact ⟨hb1, by first | rfl | simp⟩
  · have e0 : opV 10 s t = if s = ⟨#[]⟩ then t else s := by simp [opV]
    rw [e0]
    clear e0 hs ht
    by_cases hse : s = ⟨#[]⟩
    · subst hse
      rw [if_pos rfl]
      go_enter Tryz.func102, Tryz.ntmps102
      go_wp2
      go_ret
      exact ⟨Below.refl _ _, rfl⟩
    · have hsn : (s.toList == []) = false := by
        rw [ByteArray.toList_eq, beq_eq_false_iff_ne]
        exact fun h0 => hse (ba_list h0)
      have hsn2 : (s.toList != []) = true := by rw [bne, hsn]; rfl
      rw [if_neg hse]
      go_enter Tryz.func102, Tryz.ntmps102
      go_wp2
      go_ret
      exact ⟨Below.refl _ _, rfl⟩
end Go.Proofs.YtgnffedncjjkfaaGreatDoor
