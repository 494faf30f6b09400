/-
  Plain: what a pipeline decodes.
-/
import Derived.Test.YtpkhgdnkkdhlcaaGreatDoorDeA
import Derived.Test.YtpkhgdnkkdhlcaaGreatDoorDeB
import Derived.Test.YtpkhgdnkkdhlcaaGreatDoorPuX
namespace Go.Proofs.YtpkhgdnkkdhlcaaGreatDoor
open Go.RowKit By Ar

/-- Stages undone, one after the other. -/
noncomputable def unB (L : List Stg) (l : List Nat) : Option (List Nat) := L.foldl (fun o x => o.bind (bkS x)) (some l)
theorem fold_none : ∀ (L : List Stg), L.foldl (fun o x => o.bind (bkS x)) (none : Option (List Nat)) = none
  | [] => rfl
  | _ :: L => fold_none L
theorem unB_snoc (L : List Stg) (x : Stg) (l : List Nat) : unB (L ++ [x]) l = (unB L l).bind (bkS x) := by
  unfold unB
  rw [List.foldl_append]; rfl
theorem unB_app_none {L M : List Stg} {l : List Nat} (h : unB L l = none) : unB (L ++ M) l = none := by
  unfold unB at *
  rw [List.foldl_append, h, fold_none]
theorem unB_ok : ∀ (L : List Stg) {l o : List Nat}, Bytes l → l.length ≤ 1048576 → unB L l = some o → Bytes o ∧ o.length ≤ 1048576
  | [], l, o, hl, hm, h => by injection h with h; rw [← h]; exact ⟨hl, hm⟩
  | x :: L, l, o, hl, hm, h => by
    have e : unB (x :: L) l = L.foldl (fun o x => o.bind (bkS x)) (bkS x l) := rfl
    rw [e] at h
    cases hb : bkS x l with
    | none => rw [hb, fold_none] at h; cases h
    | some m =>
      rw [hb] at h
      obtain ⟨h1, h2⟩ := bkS_len hl hm hb
      exact unB_ok L h1 h2 h
/-- The first stages from behind. -/
theorem rev_take (C : List Stg) (d : Stg) : ∀ p, p ≤ C.length → (List.range p).map (fun j => C.getD (C.length - 1 - j) d) = C.reverse.take p
  | 0, _ => rfl
  | p + 1, h => by
    rw [List.range_succ, List.map_append, rev_take C d p (by omega), List.take_succ_eq_append_getElem (by rw [List.length_reverse]; omega)]
    congr 1
    simp only [List.map_cons, List.map_nil, List.getElem_reverse, List.cons.injEq, and_true]
    rw [List.getD_eq_getElem?_getD, List.getElem?_eq_getElem (by omega)]; rfl
theorem pipe_n {k : Int} {C : List Stg} (h : pipeB k C = true) : typB k = true ∧ C.length ≤ 4 ∧ ∀ x ∈ C, StgN x := by
  unfold pipeB at h
  obtain ⟨h1, h2⟩ := Bool.and_eq_true_iff.1 h
  obtain ⟨h3, h4⟩ := Bool.and_eq_true_iff.1 h1
  refine ⟨h3, of_decide_eq_true h4, fun x hx hk => ?_⟩
  obtain ⟨i, hi, rfl⟩ := List.getElem_of_mem hx
  have h5 := List.all_eq_true.1 h2 i (List.mem_range.2 hi)
  rw [List.getD_eq_getElem?_getD, List.getElem?_eq_getElem hi] at h5
  simp only [Option.getD_some] at h5
  generalize C[i] = x at *
  have h1' : ¬ x.1 = 1 := by rcases hk with h | h | h <;> omega
  unfold stgB at h5
  rw [if_neg h1', if_pos hk] at h5
  obtain ⟨h6, -⟩ := Bool.and_eq_true_iff.1 h5
  obtain ⟨h7, h8⟩ := Bool.and_eq_true_iff.1 h6
  exact ⟨of_decide_eq_true h7, of_decide_eq_true h8⟩
/-- The checksum stands behind the bytes. -/
def SealOk (b : List Nat) : Prop := 4 ≤ b.length ∧ b.drop (b.length - 4) = sealB (b.take (b.length - 4))
theorem seal_app {b : List Nat} (h : 4 ≤ b.length) : (b.take (b.length - 4) ++ sealB (b.take (b.length - 4)) = b) ↔ SealOk b := by
  constructor
  · intro e
    refine ⟨h, ?_⟩
    have : b.take (b.length - 4) ++ sealB (b.take (b.length - 4)) = b.take (b.length - 4) ++ b.drop (b.length - 4) := by rw [e, List.take_append_drop]
    exact (List.append_cancel_left this).symm
  · intro e
    rw [← e.2, List.take_append_drop]
open Classical in
/-- What Decode returns. -/
noncomputable def decR (k : Int) (C : List Stg) (n : Int) (b : List Nat) : List ByteArray × Int :=
  if pipeB k C = true then (if 0 ≤ n ∧ n ≤ 4096 then (if SealOk b then (match unB C.reverse (b.take (b.length - 4)) with | none => ([], 5) | some o => getG k n o) else ([], 5)) else ([], 2)) else ([], 40)
theorem decR_stage {k n : Int} {C : List Stg} {b : List Nat} (h : pipeB k C = false) : decR k C n b = ([], 40) := by
  unfold decR; rw [if_neg (by rw [h]; decide)]
theorem decR_arg {k n : Int} {C : List Stg} {b : List Nat} (h : pipeB k C = true) (hn : ¬ (0 ≤ n ∧ n ≤ 4096)) : decR k C n b = ([], 2) := by
  unfold decR; rw [if_pos h, if_neg hn]
theorem decR_seal {k n : Int} {C : List Stg} {b : List Nat} (h : pipeB k C = true) (hn : 0 ≤ n ∧ n ≤ 4096) (hs : ¬ SealOk b) : decR k C n b = ([], 5) := by
  unfold decR; rw [if_pos h, if_pos hn, if_neg hs]
theorem decR_none {k n : Int} {C : List Stg} {b : List Nat} (h : pipeB k C = true) (hn : 0 ≤ n ∧ n ≤ 4096) (hs : SealOk b) (hu : unB C.reverse (b.take (b.length - 4)) = none) : decR k C n b = ([], 5) := by
  unfold decR; rw [if_pos h, if_pos hn, if_pos hs, hu]
theorem decR_get {k n : Int} {C : List Stg} {b o : List Nat} (h : pipeB k C = true) (hn : 0 ≤ n ∧ n ≤ 4096) (hs : SealOk b) (hu : unB C.reverse (b.take (b.length - 4)) = some o) : decR k C n b = getG k n o := by
  unfold decR; rw [if_pos h, if_pos hn, if_pos hs, hu]
theorem getG_form {k n : Int} {b : List Nat} (h : typB k = true) (hn : 0 ≤ n ∧ n ≤ 4096) : (getG k n b).2 = 0 ∨ getG k n b = ([], 5) := by
  by_cases hl : b.length < (n.toNat + 7) / 8
  · exact .inr (getG_short ⟨h, hn⟩ hl)
  cases hg : loopG k b ((n.toNat + 7) / 8) n.toNat with
  | none => exact .inr (getG_stop ⟨h, hn⟩ hl hg)
  | some x =>
    by_cases hc : accE k x.1 = 0 ∧ putB k x.1 = b
    · exact .inl (by rw [getG_ok ⟨h, hn⟩ hl hg hc])
    · exact .inr (getG_bytes ⟨h, hn⟩ hl hg hc)
theorem getG_len4 {k n : Int} {b : List Nat} : (getG k n b).1.length ≤ 4096 := by
  unfold getG
  split
  · rename_i h
    split
    · exact Nat.zero_le _
    · cases hl : loopG k b ((n.toNat + 7) / 8) n.toNat with
      | none => exact Nat.zero_le _
      | some x =>
        simp only
        split
        · rw [loopG_len hl]; omega
        · exact Nat.zero_le _
  · exact Nat.zero_le _
theorem decR_len {k n : Int} {C : List Stg} {b : List Nat} : (decR k C n b).1.length ≤ 4096 := by
  unfold decR
  split
  · split
    · split
      · cases unB C.reverse (b.take (b.length - 4)) with
        | none => exact Nat.zero_le _
        | some o => exact getG_len4
      · exact Nat.zero_le _
    · exact Nat.zero_le _
  · exact Nat.zero_le _
end Go.Proofs.YtpkhgdnkkdhlcaaGreatDoor

