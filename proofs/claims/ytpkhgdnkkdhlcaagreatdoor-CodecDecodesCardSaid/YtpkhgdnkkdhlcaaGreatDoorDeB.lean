/-
  Plain: stages undone. Walks: a stage is undone, on both sides.
-/
import Derived.Test.YtpkhgdnkkdhlcaaGreatDoorCvA
import Derived.Test.YtpkhgdnkkdhlcaaGreatDoorCoX
import Derived.Test.YtpkhgdnkkdhlcaaGreatDoorPkX
namespace Go.Proofs.YtpkhgdnkkdhlcaaGreatDoor
open Go.RowKit By Ar

/-- A stage undone. -/
noncomputable def bkS (x : Stg) (l : List Nat) : Option (List Nat) :=
  open Classical in
  if x.1 = 2 then some (undeltaB l x.2.1.toNat) else if x.1 = 3 then some (unshB l x.2.1.toNat) else
  if x.1 = 5 then (if uOk l x.2.1.toNat then some (ukB l x.2.1.toNat) else none) else
  if x.1 = 4 then (if (und l []).1 = 0 then some (und l []).2 else none) else some l
/-- What a stage asks of its number. -/
def StgN (x : Stg) : Prop := x.1 = 2 ∨ x.1 = 3 ∨ x.1 = 5 → 1 ≤ x.2.1 ∧ x.2.1 ≤ 8
def stgV (x : Stg) : Value := .agg #[.int .i64 x.1, .int .i64 x.2.1, .string x.2.2]
/-- How a stage undone is answered. -/
def BackA (W : World) (x : Stg) (l : List Nat) (e : Ending) (W' : World) : Prop :=
  Below W.heap.size W W' ∧ ((∃ o v, bkS x l = some o ∧ e = .returned (.tuple #[v, .int .i64 0]) ∧ IsL W' W'.heap.size .u8 v o) ∨ (bkS x l = none ∧ ∃ (v : Value) (g : Int), g ≠ 0 ∧ e = .returned (.tuple #[v, .int .i64 g])))
theorem und_ok : ∀ (n : Nat) (b out : List Nat), b.length ≤ n → Bytes b → Bytes out → out.length ≤ 1048576 → (und b out).1 = 0 → Bytes (und b out).2 ∧ (und b out).2.length ≤ 1048576
  | _, [], out, _, _, ho, hm, _ => by rw [und_nil]; exact ⟨ho, hm⟩
  | 0, c :: r, _, hn, _, _, _, _ => by simp at hn
  | n + 1, c :: r, out, hn, hb, ho, hm, h => by
    rw [List.length_cons] at hn
    have hr : Bytes r := fun x hx => hb x (List.mem_cons_of_mem _ hx)
    by_cases h1 : c < 128
    · by_cases h2 : r.length < c + 1
      · rw [und_lit_short h1 h2] at h; cases h
      by_cases h3 : out.length + (c + 1) > 1048576
      · rw [und_lit_long h1 h2 h3] at h; cases h
      rw [und_lit h1 h2 h3] at h ⊢
      exact und_ok n _ _ (by rw [List.length_drop]; omega) (hr.drop _) (ho.app (hr.take _)) (by rw [List.length_append, List.length_take]; omega) h
    · by_cases h2 : r.length < 2
      · rw [und_rep_short h1 h2] at h; cases h
      by_cases h3 : r.getD 0 0 * 256 + r.getD 1 0 = 0 ∨ r.getD 0 0 * 256 + r.getD 1 0 > out.length
      · rw [und_rep_far h1 h2 h3] at h; cases h
      by_cases h4 : out.length + (c - 124) > 1048576
      · rw [und_rep_long h1 h2 h3 h4] at h; cases h
      rw [und_rep h1 h2 h3 h4] at h ⊢
      exact und_ok n _ _ (by rw [List.length_drop]; omega) (hr.drop _) (rep_bytes ho _) (by rw [rep_len]; omega) h
theorem bkS_len {x : Stg} {l o : List Nat} (hl : Bytes l) (hm : l.length ≤ 1048576) (h : bkS x l = some o) : Bytes o ∧ o.length ≤ 1048576 := by
  unfold bkS at h
  split at h
  · injection h with h; rw [← h]; exact ⟨undeltaB_bytes hl _, by rw [undeltaB_len]; exact hm⟩
  split at h
  · injection h with h; rw [← h]; exact ⟨unshB_bytes hl _, by rw [unshB_len]; exact hm⟩
  split at h
  · split at h
    · rename_i hu
      injection h with h; rw [← h]; exact ⟨ukB_bytes hl _, hu.2.1⟩
    · cases h
  split at h
  · split at h
    · rename_i h0
      injection h with h; rw [← h]; exact und_ok _ l [] (Nat.le_refl _) hl bytes_nil (by decide) h0
    · cases h
  · injection h with h; rw [← h]; exact ⟨hl, hm⟩

set_option maxRecDepth 100000 in
set_option maxHeartbeats 3200000 in
theorem back_any (x : Stg) (A : Option Addr) (c : Nat) (l : List Nat) (w : World) (hx : StgN x) (hl : Bytes l) (hc : l.length ≤ c) (hm : l.length ≤ 1048576) (h : Rd w w.heap.size A (ints .u8 l)) :
    Calls Tryz.prog 62 #[stgV x, .slice A l.length c] w fun e w' => BackA w x l e w' := by
  obtain ⟨kd, n, st⟩ := x
  unfold stgV
  dsimp only
  have hb0 := below_alloc w (.cells #[.int .i64 kd, .int .i64 n, .string st] 52)
  have k0 := Bk.new w 52 #[Value.int .i64 kd, .int .i64 n, .string st]
  have c0 := k0.cell 0
  have c1 := k0.cell 1
  have h' : Rd (w.alloc (.cells #[.int .i64 kd, .int .i64 n, .string st] 52)) (w.alloc (.cells #[.int .i64 kd, .int .i64 n, .string st] 52)).heap.size A (ints .u8 l) := (h.below hb0).more hb0.size
  have hB : ∀ {e : Ending} {W' : World}, BackA (w.alloc (.cells #[.int .i64 kd, .int .i64 n, .string st] 52)) (kd, n, st) l e W' → BackA w (kd, n, st) l e W' := fun hh => ⟨hb0.trans (hh.1.mono hb0.size), hh.2⟩
  by_cases h2 : kd = 2
  · obtain ⟨n1, n8⟩ := hx (.inl h2)
    obtain ⟨N, rfl⟩ : ∃ N : Nat, n = (N : Int) := ⟨n.toNat, by dsimp only at n1; omega⟩
    dsimp only at n1 n8
    have CC := Lib.hid (undelta_any A c N l _ (by omega) (by omega) hl hc hm h')
    subst h2
    go_enter Tryz.func62, Tryz.ntmps62
    go_wp2_with fail
    refine CC.out.mono ?_
    rintro e w1 ⟨hb1, v, rfl, hv⟩
    go_wp2
    go_ret2
    exact hB ⟨hb1, .inl ⟨_, v, rfl, rfl, hv⟩⟩
  by_cases h3 : kd = 3
  · obtain ⟨n1, n8⟩ := hx (.inr (.inl h3))
    obtain ⟨N, rfl⟩ : ∃ N : Nat, n = (N : Int) := ⟨n.toNat, by dsimp only at n1; omega⟩
    dsimp only at n1 n8
    have CC := Lib.hid (unshuffle_any A c N l _ (by omega) (by omega) hm h')
    subst h3
    go_enter Tryz.func62, Tryz.ntmps62
    go_wp2_with fail
    refine CC.out.mono ?_
    rintro e w1 ⟨hb1, v, rfl, hv⟩
    go_wp2
    go_ret2
    exact hB ⟨hb1, .inl ⟨_, v, rfl, rfl, hv⟩⟩
  by_cases h5 : kd = 5
  · obtain ⟨n1, n8⟩ := hx (.inr (.inr h5))
    obtain ⟨N, rfl⟩ : ∃ N : Nat, n = (N : Int) := ⟨n.toNat, by dsimp only at n1; omega⟩
    dsimp only at n1 n8
    have CC := Lib.hid (unpack_any A c N l _ (by omega) (by omega) hl hc hm h')
    subst h5
    go_enter Tryz.func62, Tryz.ntmps62
    go_wp2_with fail
    refine CC.out.mono ?_
    rintro e w1 ⟨hb1, ⟨hu, v, rfl, hv⟩ | ⟨hu, rfl⟩⟩
    · go_wp2
      go_ret2
      exact hB ⟨hb1, .inl ⟨_, v, if_pos hu, rfl, hv⟩⟩
    · go_wp2
      go_ret2
      exact hB ⟨hb1, .inr ⟨if_neg hu, _, 5, by decide, rfl⟩⟩
  by_cases h4 : kd = 4
  · obtain ⟨E, R, hER⟩ : ∃ E R, und l [] = (E, R) := ⟨_, _, rfl⟩
    have CC := Lib.hid (undict_any A c l E R _ hl hc (by omega) trivial h' hER)
    subst h4
    have HER := Lib.hid hER
    clear hER
    go_enter Tryz.func62, Tryz.ntmps62
    go_wp2_with fail
    refine CC.out.mono ?_
    rintro e w1 ⟨hb1, v, rfl, hv⟩
    go_wp2
    go_ret2
    have hE := HER.out
    by_cases h0 : E = 0
    · subst h0
      exact hB ⟨hb1, .inl ⟨R, v, by show (if (und l []).1 = 0 then some (und l []).2 else none) = some R; rw [hE]; rfl, rfl, hv⟩⟩
    · exact hB ⟨hb1, .inr ⟨by show (if (und l []).1 = 0 then some (und l []).2 else none) = none; rw [hE]; exact if_neg h0, v, (E : Int), by omega, rfl⟩⟩
  · have hv : IsL (w.alloc (.cells #[.int .i64 kd, .int .i64 n, .string st] 52)) (w.alloc (.cells #[.int .i64 kd, .int .i64 n, .string st] 52)).heap.size .u8 (.slice A l.length c) l := ⟨A, c, rfl, hc, h'⟩
    have HV := Lib.hid hv
    have e2 : (kd == 2) = false := by simp [h2]
    have e3 : (kd == 3) = false := by simp [h3]
    have e4 : (kd == 4) = false := by simp [h4]
    have e5 : (kd == 5) = false := by simp [h5]
    have HS : Hid (bkS (kd, n, st) l = some l) := by show _ = _; unfold bkS; rw [if_neg h2, if_neg h3, if_neg h5, if_neg h4]
    clear hv
    go_enter Tryz.func62, Tryz.ntmps62
    go_wp2
    go_ret2
    exact hB ⟨Below.refl _ _, .inl ⟨_, _, HS.out, rfl, HV.out⟩⟩

set_option maxRecDepth 100000 in
set_option maxHeartbeats 3200000 in
theorem rback_any (x : Stg) (A : Option Addr) (c : Nat) (l : List Nat) (w : World) (hx : StgN x) (hl : Bytes l) (hc : l.length ≤ c) (hm : l.length ≤ 1048576) (h : Rd w w.heap.size A (ints .u8 l)) :
    Calls Tryz.prog 64 #[stgV x, .slice A l.length c] w fun e w' => BackA w x l e w' := by
  obtain ⟨kd, n, st⟩ := x
  unfold stgV
  dsimp only
  have hb0 := below_alloc w (.cells #[.int .i64 kd, .int .i64 n, .string st] 52)
  have k0 := Bk.new w 52 #[Value.int .i64 kd, .int .i64 n, .string st]
  have c0 := k0.cell 0
  have c1 := k0.cell 1
  have h' : Rd (w.alloc (.cells #[.int .i64 kd, .int .i64 n, .string st] 52)) (w.alloc (.cells #[.int .i64 kd, .int .i64 n, .string st] 52)).heap.size A (ints .u8 l) := (h.below hb0).more hb0.size
  have hB : ∀ {e : Ending} {W' : World}, BackA (w.alloc (.cells #[.int .i64 kd, .int .i64 n, .string st] 52)) (kd, n, st) l e W' → BackA w (kd, n, st) l e W' := fun hh => ⟨hb0.trans (hh.1.mono hb0.size), hh.2⟩
  by_cases h2 : kd = 2
  · obtain ⟨n1, n8⟩ := hx (.inl h2)
    obtain ⟨N, rfl⟩ : ∃ N : Nat, n = (N : Int) := ⟨n.toNat, by dsimp only at n1; omega⟩
    dsimp only at n1 n8
    have CC := Lib.hid (rundelta_any A c N l _ (by omega) (by omega) hl hc hm h')
    subst h2
    go_enter Tryz.func64, Tryz.ntmps64
    go_wp2_with fail
    refine CC.out.mono ?_
    rintro e w1 ⟨hb1, v, rfl, hv⟩
    go_wp2
    go_ret2
    exact hB ⟨hb1, .inl ⟨_, v, rfl, rfl, hv⟩⟩
  by_cases h3 : kd = 3
  · obtain ⟨n1, n8⟩ := hx (.inr (.inl h3))
    obtain ⟨N, rfl⟩ : ∃ N : Nat, n = (N : Int) := ⟨n.toNat, by dsimp only at n1; omega⟩
    dsimp only at n1 n8
    have CC := Lib.hid (runshuffle_any A c N l _ (by omega) (by omega) hc hm h')
    subst h3
    go_enter Tryz.func64, Tryz.ntmps64
    go_wp2_with fail
    refine CC.out.mono ?_
    rintro e w1 ⟨hb1, v, rfl, hv⟩
    go_wp2
    go_ret2
    exact hB ⟨hb1, .inl ⟨_, v, rfl, rfl, hv⟩⟩
  by_cases h5 : kd = 5
  · obtain ⟨n1, n8⟩ := hx (.inr (.inr h5))
    obtain ⟨N, rfl⟩ : ∃ N : Nat, n = (N : Int) := ⟨n.toNat, by dsimp only at n1; omega⟩
    dsimp only at n1 n8
    have CC := Lib.hid (runpack_any A c N l _ (by omega) (by omega) hl hc hm h')
    subst h5
    go_enter Tryz.func64, Tryz.ntmps64
    go_wp2_with fail
    refine CC.out.mono ?_
    rintro e w1 ⟨hb1, ⟨hu, v, rfl, hv⟩ | ⟨hu, rfl⟩⟩
    · go_wp2
      go_ret2
      exact hB ⟨hb1, .inl ⟨_, v, if_pos hu, rfl, hv⟩⟩
    · go_wp2
      go_ret2
      exact hB ⟨hb1, .inr ⟨if_neg hu, _, 5, by decide, rfl⟩⟩
  by_cases h4 : kd = 4
  · obtain ⟨E, R, hER⟩ : ∃ E R, und l [] = (E, R) := ⟨_, _, rfl⟩
    have CC := Lib.hid (rundict_any A c l E R _ hl hc (by omega) trivial h' hER)
    subst h4
    have HER := Lib.hid hER
    clear hER
    go_enter Tryz.func64, Tryz.ntmps64
    go_wp2_with fail
    refine CC.out.mono ?_
    rintro e w1 ⟨hb1, v, rfl, hv⟩
    go_wp2
    go_ret2
    have hE := HER.out
    by_cases h0 : E = 0
    · subst h0
      exact hB ⟨hb1, .inl ⟨R, v, by show (if (und l []).1 = 0 then some (und l []).2 else none) = some R; rw [hE]; rfl, rfl, hv⟩⟩
    · exact hB ⟨hb1, .inr ⟨by show (if (und l []).1 = 0 then some (und l []).2 else none) = none; rw [hE]; exact if_neg h0, v, (E : Int), by omega, rfl⟩⟩
  · have hv : IsL (w.alloc (.cells #[.int .i64 kd, .int .i64 n, .string st] 52)) (w.alloc (.cells #[.int .i64 kd, .int .i64 n, .string st] 52)).heap.size .u8 (.slice A l.length c) l := ⟨A, c, rfl, hc, h'⟩
    have HV := Lib.hid hv
    have e2 : (kd == 2) = false := by simp [h2]
    have e3 : (kd == 3) = false := by simp [h3]
    have e4 : (kd == 4) = false := by simp [h4]
    have e5 : (kd == 5) = false := by simp [h5]
    have HS : Hid (bkS (kd, n, st) l = some l) := by show _ = _; unfold bkS; rw [if_neg h2, if_neg h3, if_neg h5, if_neg h4]
    clear hv
    go_enter Tryz.func64, Tryz.ntmps64
    go_wp2
    go_ret2
    exact hB ⟨Below.refl _ _, .inl ⟨_, _, HS.out, rfl, HV.out⟩⟩
end Go.Proofs.YtpkhgdnkkdhlcaaGreatDoor

