/-
  Walk: the reference's Unpack.
-/
import Derived.Test.YtmoenbdooilceaaDoorPackQ
import Derived.Deep.RegionHeld3
namespace Go.Proofs.YtmoenbdooilceaaDoor
open Go.RowKit By

theorem to_string_rd {w : World} {A : Option Addr} {l : List Nat} (h : Rd w w.heap.size A (ints .u8 l)) (c : Nat) : (convert 22 9 (.slice A l.length c)).run Tryd.prog w = .ok (.string (bstr l)) w :=
  run_to_string (P := Tryd.prog) h 22 5 9 Tryd.underlying22 Tryd.underlying5 Tryd.underlying9 l.length c rfl
theorem rd_fwd {w w' : World} {A : Option Addr} {l : List Nat} (h : Rd w w.heap.size A (ints .u8 l)) (hb : Below w.heap.size w w') : Rd w' w'.heap.size A (ints .u8 l) := (h.below hb).more hb.size

/-- A step of a region whose operations are written out: the operation is met as it is written. -/
theorem takeH {P : Program} {md : Region.Mode} {Q : Exit → Act → World → Prop} {S : World → Prop} {l : List Oper} {i : Nat} {oi : Oper} {v : Value} {fuel : Nat} {listed : Array Bool} {a : Act} {w : World} (hi : l[i]? = some oi)
    (hs : Region.noSelect l.toArray = true) (hf : Region.free md l.toArray listed i = true) (hr : (Region.ready md l.toArray listed).contains i = true)
    (hQ : ∀ c a w, Q (.panic c) (a.put oi.dst v) w → Q (.panic c) a w) (hw : Region.wanted oi (yielded l.toArray a.tmps) = true) (hS : S w) (hy : ∀ w, S w → (execOp a.eval oi).run P w = .ok (.value v) w)
    (h : wpAnyH P md l.toArray Q S fuel (listed.setIfInBounds i true) (a.put oi.dst v) w) : wpAnyH P md l.toArray Q S (fuel + 1) listed a w :=
  wpAnyH_take (by simpa using hi) hs hf hr hQ (.inl ⟨hw, hy⟩) hS h
/-- The same, where one operation alone may come up. -/
theorem stepH {P : Program} {md : Region.Mode} {Q : Exit → Act → World → Prop} {S : World → Prop} {l : List Oper} {i : Nat} {oi : Oper} {fuel : Nat} {listed : Array Bool} {a : Act} {w : World} (hi : l[i]? = some oi)
    (hr : Region.ready md l.toArray listed = [i])
    (h : ∀ K' : Act → World → Prop, Shut (∀ a w, S w → (S w → wpAnyH P md l.toArray Q S fuel (listed.setIfInBounds i true) a w) → K' a w) → if Region.wanted oi (yielded l.toArray a.tmps) = true then Oper.wp P oi a w K' Q else K' (a.put oi.dst undef) w) :
    wpAnyH P md l.toArray Q S (fuel + 1) listed a w :=
  wpAnyH_ready hr (by simp) (AllReadyH.cons (by simpa using hi) h AllReadyH.nil)

theorem packB_bytes {g : Nat → Nat} {k n : Nat} {r : List Nat} (hG : ∀ i, g i < 2 ^ 64) (hr : Bytes r) : Bytes (packB g k n r) := by
  unfold packB
  refine Bytes.app ?_ hr
  split
  · exact gb_bytes _ _
  · rename_i h0
    refine ((Bytes.app (gb_bytes _ _) (gb_bytes _ _)).app (bytes_one ?_)).app (packF_bytes _ _)
    have h2 : packW g k ≤ 64 := bl_le.2 (Nat.lt_of_le_of_lt (Nat.sub_le _ _) (hi_lt (Nat.pos_of_ne_zero h0) fun i _ => hG i))
    omega
theorem bstr_dec {l r : List Nat} (hl : Bytes l) (hr : Bytes r) : ∃ q : Bool, ((bstr l).toList == (bstr r).toList) = q ∧ (q = true ↔ l = r) := by
  refine ⟨_, rfl, fun h => bstr_inj hl hr ?_, fun h => by rw [h]; exact bstr_self r⟩
  have h2 : (bstr l).toList = (bstr r).toList := by simpa using h
  simpa [bstr] using h2

set_option maxRecDepth 100000 in
set_option maxHeartbeats 3200000 in
theorem runpack_any (A : Option Addr) (c n : Nat) (b : List Nat) (w : World) (h1 : 1 ≤ n) (h8 : n ≤ 8) (hl : Bytes b) (hc : b.length ≤ c) (hm : b.length ≤ 1048576) (h : Rd w w.heap.size A (ints .u8 b)) :
    Calls Tryd.prog 30 #[.slice A b.length c, .int .i64 n] w fun e w' => Below w.heap.size w w' ∧
      ((uOk b n ∧ ∃ v, e = .returned (.tuple #[v, .int .i64 0]) ∧ IsL w' w'.heap.size .u8 v (ukB b n)) ∨ (¬ uOk b n ∧ e = .returned (.tuple #[.slice none 0 0, .int .i64 5]))) := by
  have hg : grE n b.length = 0 := by unfold grE; rw [if_neg (by omega), if_neg (by omega)]
  have HU := Lib.hid (uOk_ref hl h1 h8)
  go_enter Tryd.func30, Tryd.ntmps30
  go_wp2_with fail
  refine (asked_any _ _ _ _ _ (by omega)).mono ?_
  rintro e w1 ⟨rfl, rfl⟩
  rw [hg]
  clear hg
  go_wp2_with fail
  refine (runpacked_any A c n b w h1 h8 hl hc hm h).mono ?_
  rintro e w1 ⟨hb1, ⟨hok, v, u, rfl, hv, hu⟩ | ⟨hno, rfl⟩⟩
  · obtain ⟨A2, c2, rfl, hc2, hr2⟩ := hv
    obtain ⟨A3, c3, rfl, hc3, hr3⟩ := hu
    rw [gs_len] at hc2 ⊢
    have hkb : ukN b ≤ 1048576 := by
      rcases hok.2 with h0 | h0
      · omega
      · exact h0.1
    have hRb : Bytes (ukR b n) := by
      unfold ukR
      split
      · exact hl.drop _
      · exact ((hl.drop _).drop _).drop _
    have hRl : (ukR b n).length ≤ 1048576 := by
      refine Nat.le_trans ?_ hm
      unfold ukR
      split
      · rw [List.length_drop]; omega
      · unfold ukF; rw [List.length_drop, List.length_drop, List.length_drop]; omega
    have hGb := gs_bound (k := ukN b) (ukG_lt b n)
    have HOK := Lib.hid hok
    have HBe : Hid (jl (gs (ukG b n) (ukN b)) n ++ ukR b n = ukB b n) := by
      show _ = _
      unfold ukB jl
      rw [gs_len]
      congr 1
      exact jn_congr fun j hj => congrArg (gb n) (el_gs _ hj)
    have HPe : Hid (packB (el (gs (ukG b n) (ukN b))) (ukN b) n (ukR b n) = packB (ukG b n) (ukN b) n (ukR b n)) := packB_congr fun i hi => el_gs _ hi
    have hgl := gs_len (ukG b n) (ukN b)
    generalize gs (ukG b n) (ukN b) = ds at *
    clear hok
    obtain ⟨P, hP⟩ : ∃ P, P = ukN b * n := ⟨_, rfl⟩
    have hPb : P ≤ 8388608 := by rw [hP]; exact Nat.le_trans (Nat.mul_le_mul hkb h8) (by omega)
    have mP : IntKind.i64.wrap ((ukN b : Int) * (n : Int)) = (P : Int) := by rw [← Int.natCast_mul, ← hP]; exact IntWalk.i64_in _ (by omega)
    have mT : IntKind.i64.wrap ((P : Int) + ((ukR b n).length : Int)) = (P : Int) + ((ukR b n).length : Int) := IntWalk.i64_in _ (by omega)
    have HP := Lib.hid hP
    rw [← hP] at HU
    clear hP
    by_cases htot : P + (ukR b n).length ≤ 1048576
    · have tt : ((P : Int) + ((ukR b n).length : Int) ≤ 1048576) := by omega
      have hrbD : Rd w1.drew w1.drew.heap.size A (ints .u8 b) := drest0 h hb1
      have hpk := rpacked_any A2 A3 c2 c3 n ds (ukR b n) w1.drew h1 h8 hGb (by rw [hgl]; exact hkb) hRl hr2 hr3
      rw [hgl, HPe.out] at hpk
      have sB1 := run_to_string (P := Tryd.prog) hrbD 22 5 9 Tryd.underlying22 Tryd.underlying5 Tryd.underlying9 b.length c rfl
      obtain ⟨pk, hpkd⟩ : ∃ pk, pk = packB (ukG b n) (ukN b) n (ukR b n) := ⟨_, rfl⟩
      have hpkB : Bytes pk := by rw [hpkd]; exact packB_bytes (ukG_lt b n) hRb
      obtain ⟨q, s3, hq⟩ := bstr_dec hpkB hl
      rw [← hpkd] at hpk HU
      clear hpkd
      have HQ := Lib.hid hq
      clear hq
      · have td : decide ((1048576 : Int) < (P : Int) + ((ukR b n).length : Int)) = false := decide_eq_false (by omega)
        go_wp2
        refine wp_region_held_drew (S := fun W => (convert 22 9 (.slice A b.length c)).run Tryd.prog W = .ok (.string (bstr b)) W) (by kernel_rfl) sB1 (fun hS => ?_)
        refine takeH (i := 0) (v := ?_) rfl (by kernel_rfl) (by kernel_rfl) (by kernel_rfl) (fun _ _ _ h => h) (by rfl) (by assumption) ?_ ?_
        rotate_left
        · intro w hSw; (try dsimp only at hSw); go_simp <;> with_reducible rfl
        try simp only [Act.put, List.setIfInBounds_toArray, List.set_cons_zero, List.set_cons_succ]
        refine takeH (i := 1) (v := ?_) rfl (by kernel_rfl) (by kernel_rfl) (by kernel_rfl) (fun _ _ _ h => h) (by rfl) (by assumption) ?_ ?_
        rotate_left
        · intro w hSw; (try dsimp only at hSw); go_simp <;> with_reducible rfl
        try simp only [Act.put, List.setIfInBounds_toArray, List.set_cons_zero, List.set_cons_succ]
        refine takeH (i := 2) (v := ?_) rfl (by kernel_rfl) (by kernel_rfl) (by kernel_rfl) (fun _ _ _ h => h) (by rfl) (by assumption) ?_ ?_
        rotate_left
        · intro w hSw; (try dsimp only at hSw); go_simp <;> with_reducible rfl
        try simp only [Act.put, List.setIfInBounds_toArray, List.set_cons_zero, List.set_cons_succ]
        refine takeH (i := 3) (v := ?_) rfl (by kernel_rfl) (by kernel_rfl) (by kernel_rfl) (fun _ _ _ h => h) (by rfl) (by assumption) ?_ ?_
        rotate_left
        · intro w hSw; (try dsimp only at hSw); go_simp <;> with_reducible rfl
        try simp only [Act.put, List.setIfInBounds_toArray, List.set_cons_zero, List.set_cons_succ]
        refine takeH (i := 4) (v := ?_) rfl (by kernel_rfl) (by kernel_rfl) (by kernel_rfl) (fun _ _ _ h => h) (by rfl) (by assumption) ?_ ?_
        rotate_left
        · intro w hSw; (try dsimp only at hSw); go_simp <;> with_reducible rfl
        try simp only [Act.put, List.setIfInBounds_toArray, List.set_cons_zero, List.set_cons_succ]
        refine takeH (i := 5) (v := ?_) rfl (by kernel_rfl) (by kernel_rfl) (by kernel_rfl) (fun _ _ _ h => h) (by rfl) (by assumption) ?_ ?_
        rotate_left
        · intro w hSw; (try dsimp only at hSw); go_simp <;> with_reducible rfl
        try simp only [Act.put, List.setIfInBounds_toArray, List.set_cons_zero, List.set_cons_succ]
        refine takeH (i := 6) (v := ?_) rfl (by kernel_rfl) (by kernel_rfl) (by kernel_rfl) (fun _ _ _ h => h) (by rfl) (by assumption) ?_ ?_
        rotate_left
        · intro w hSw; (try dsimp only at hSw); go_simp <;> with_reducible rfl
        try simp only [Act.put, List.setIfInBounds_toArray, List.set_cons_zero, List.set_cons_succ]
        refine takeH (i := 7) (v := ?_) rfl (by kernel_rfl) (by kernel_rfl) (by kernel_rfl) (fun _ _ _ h => h) (by rfl) (by assumption) ?_ ?_
        rotate_left
        · intro w hSw; (try dsimp only at hSw); go_simp <;> with_reducible rfl
        try simp only [Act.put, List.setIfInBounds_toArray, List.set_cons_zero, List.set_cons_succ]
        refine takeH (i := 8) (v := ?_) rfl (by kernel_rfl) (by kernel_rfl) (by kernel_rfl) (fun _ _ _ h => h) (by rfl) (by assumption) ?_ ?_
        rotate_left
        · intro w hSw; (try dsimp only at hSw); go_simp <;> with_reducible rfl
        try simp only [Act.put, List.setIfInBounds_toArray, List.set_cons_zero, List.set_cons_succ]
        refine takeH (i := 9) (v := ?_) rfl (by kernel_rfl) (by kernel_rfl) (by kernel_rfl) (fun _ _ _ h => h) (by rfl) (by assumption) ?_ ?_
        rotate_left
        · intro w hSw; (try dsimp only at hSw); go_simp <;> with_reducible rfl
        try simp only [Act.put, List.setIfInBounds_toArray, List.set_cons_zero, List.set_cons_succ]
        refine takeH (i := 10) (v := ?_) rfl (by kernel_rfl) (by kernel_rfl) (by kernel_rfl) (fun _ _ _ h => h) (by rfl) (by assumption) ?_ ?_
        rotate_left
        · intro w hSw; (try dsimp only at hSw); go_simp <;> with_reducible rfl
        try simp only [Act.put, List.setIfInBounds_toArray, List.set_cons_zero, List.set_cons_succ]
        refine takeH (i := 11) (v := ?_) rfl (by kernel_rfl) (by kernel_rfl) (by kernel_rfl) (fun _ _ _ h => h) (by rfl) (by assumption) ?_ ?_
        rotate_left
        · intro w hSw; (try dsimp only at hSw); go_simp <;> with_reducible rfl
        try simp only [Act.put, List.setIfInBounds_toArray, List.set_cons_zero, List.set_cons_succ]
        refine takeH (i := 12) (v := ?_) rfl (by kernel_rfl) (by kernel_rfl) (by kernel_rfl) (fun _ _ _ h => h) (by rfl) (by assumption) ?_ ?_
        rotate_left
        · intro w hSw; (try dsimp only at hSw); go_simp <;> with_reducible rfl
        try simp only [Act.put, List.setIfInBounds_toArray, List.set_cons_zero, List.set_cons_succ]
        refine takeH (i := 13) (v := ?_) rfl (by kernel_rfl) (by kernel_rfl) (by kernel_rfl) (fun _ _ _ h => h) (by rfl) (by assumption) ?_ ?_
        rotate_left
        · intro w hSw; (try dsimp only at hSw); go_simp <;> with_reducible rfl
        try simp only [Act.put, List.setIfInBounds_toArray, List.set_cons_zero, List.set_cons_succ]
        refine takeH (i := 14) (v := ?_) rfl (by kernel_rfl) (by kernel_rfl) (by kernel_rfl) (fun _ _ _ h => h) (by rfl) (by assumption) ?_ ?_
        rotate_left
        · intro w hSw; (try dsimp only at hSw); go_simp <;> with_reducible rfl
        try simp only [Act.put, List.setIfInBounds_toArray, List.set_cons_zero, List.set_cons_succ]
        refine takeH (i := 15) (v := ?_) rfl (by kernel_rfl) (by kernel_rfl) (by kernel_rfl) (fun _ _ _ h => h) (by rfl) (by assumption) ?_ ?_
        rotate_left
        · intro w hSw; (try dsimp only at hSw); go_simp <;> with_reducible rfl
        try simp only [Act.put, List.setIfInBounds_toArray, List.set_cons_zero, List.set_cons_succ]
        refine takeH (i := 18) (v := ?_) rfl (by kernel_rfl) (by kernel_rfl) (by kernel_rfl) (fun _ _ _ h => h) (by rfl) (by assumption) ?_ ?_
        rotate_left
        · intro w hSw; (try dsimp only at hSw); go_simp <;> with_reducible rfl
        try simp only [Act.put, List.setIfInBounds_toArray, List.set_cons_zero, List.set_cons_succ]
        refine takeH (i := 19) (v := ?_) rfl (by kernel_rfl) (by kernel_rfl) (by kernel_rfl) (fun _ _ _ h => h) (by rfl) (by assumption) ?_ ?_
        rotate_left
        · intro w hSw; (try dsimp only at hSw); go_simp <;> with_reducible rfl
        try simp only [Act.put, List.setIfInBounds_toArray, List.set_cons_zero, List.set_cons_succ]
        refine stepH (i := 16) rfl (by kernel_rfl) (fun K hK => ?_)
        go_simp
        refine hpk.mono ?_
        rintro e w2 ⟨hb2, v5, rfl, A5, c5, rfl, hc5, hr5⟩
        have sA5 := to_string_rd hr5 c5
        go_wp2_with fail
        refine hK.out _ _ (to_string_rd (rd_fwd hrbD hb2) c) (fun hH => ?_)
        clear hK K hS
        try simp only [Act.put, List.setIfInBounds_toArray, List.set_cons_zero, List.set_cons_succ]
        refine stepH (i := 17) rfl (by kernel_rfl) (fun K hK => ?_)
        go_simp
        refine hK.out _ _ hH (fun _ => ?_)
        clear hK K
        try simp only [Act.put, List.setIfInBounds_toArray, List.set_cons_zero, List.set_cons_succ]
        refine takeH (i := 20) (v := ?_) rfl (by kernel_rfl) (by kernel_rfl) (by kernel_rfl) (fun _ _ _ h => h) (by rfl) (by assumption) ?_ ?_
        rotate_left
        · intro w hSw; (try dsimp only at hSw); go_simp <;> with_reducible rfl
        try simp only [Act.put, List.setIfInBounds_toArray, List.set_cons_zero, List.set_cons_succ]
        refine takeH (i := 21) (v := ?_) rfl (by kernel_rfl) (by kernel_rfl) (by kernel_rfl) (fun _ _ _ h => h) (by rfl) (by assumption) ?_ ?_
        rotate_left
        · intro w hSw; (try dsimp only at hSw); go_simp <;> with_reducible rfl
        try simp only [Act.put, List.setIfInBounds_toArray, List.set_cons_zero, List.set_cons_succ]
        refine wpAnyH_done (by kernel_rfl) ?_ _
        have HB2 : Hid (Below w.heap.size w w2) := by
          have h0 : Below w.heap.size w w1.drew := below_drewN hb1 1
          exact h0.trans (hb2.mono h0.size)
        have hrb2 := rd_fwd hrbD hb2
        have hb12 : Below w1.heap.size w1 w2 := (below_drewN (Below.refl _ _) 1).trans hb2
        have hr2' := (hr2.below hb12).more hb12.size
        have hr3' := (hr3.below hb12).more hb12.size
        clear hb12
        clear sA5 hr5 hH hpk sB1 hrbD hb2
        cases q
        · have HE : Hid (¬ uOk b n) := fun x => absurd (HQ.out.2 (HU.out.1 x).2.2.1) (by decide)
          go_wp2
          go_ret2
          exact ⟨HB2.out, .inr ⟨HE.out, rfl⟩⟩
        · have HE := Lib.hid (HQ.out.1 rfl)
          have hj := rjoined_any A2 A3 c2 c3 n ds (ukR b n) w2 h1 h8 hGb (by rw [hgl]; exact hkb) hRl hr2' hr3'
          rw [hgl, HBe.out] at hj
          go_wp2_with fail
          refine hj.mono ?_
          rintro e w3 ⟨hb3, v6, rfl, hv6⟩
          obtain ⟨A6, c6, rfl, hc6, hr6⟩ := hv6
          have HB3 : Hid (Below w.heap.size w w3) := HB2.out.trans (hb3.mono HB2.out.size)
          have hrb3 := rd_fwd hrb2 hb3
          have HUL : Hid (uOk b n ↔ packL (ukB b n) n = b) := ⟨fun x => (HU.out.1 x).2.2.2, fun x => HU.out.2 ⟨HOK.out, htot, HE.out, x⟩⟩
          have hBB := ukB_bytes hl n
          have hBl : (ukB b n).length ≤ 1048576 := by rw [show (ukB b n).length = P + (ukR b n).length by unfold ukB; rw [List.length_append, jn_len, HP.out]]; exact htot
          go_wp2_with fail
          refine (rpack_any A6 c6 n (ukB b n) w3 h1 h8 hBB hc6 hBl hr6).mono ?_
          rintro e w4 ⟨hb4, v7, rfl, A7, c7, rfl, hc7, hr7⟩
          have HB4 : Hid (Below w.heap.size w w4) := HB3.out.trans (hb4.mono HB3.out.size)
          have HV : Hid (IsL w4 w4.heap.size .u8 (.slice A6 (ukB b n).length c6) (ukB b n)) := ⟨A6, c6, rfl, hc6, rd_fwd hr6 hb4⟩
          have sA := to_string_rd hr7 c7
          have sB := to_string_rd (rd_fwd hrb3 hb4) c
          obtain ⟨q, s4, hq⟩ := bstr_dec (packL_bytes hBB h8) hl
          clear hr6 hr7 hrb3 hb3 hb4 hrb2 hr2' hr3' hj
          cases q
          · have HN : Hid (¬ uOk b n) := fun x => absurd (hq.2 (HUL.out.1 x)) (by decide)
            clear hq
            go_wp2
            go_ret2
            exact ⟨HB4.out, .inr ⟨HN.out, rfl⟩⟩
          · have HY : Hid (uOk b n) := HUL.out.2 (hq.1 rfl)
            clear hq
            go_wp2
            go_ret2
            exact ⟨HB4.out, .inl ⟨HY.out, _, rfl, HV.out⟩⟩
    · have tt : ¬ ((P : Int) + ((ukR b n).length : Int) ≤ 1048576) := by omega
      have HE : Hid (¬ uOk b n) := fun x => htot (HU.out.1 x).2.1
      go_wp2
      go_quiet (fail)
      go_wp2
      go_ret2
      exact ⟨below_drewN hb1 _, .inr ⟨HE.out, rfl⟩⟩
  · have HE : Hid (¬ uOk b n) := fun x => hno (HU.out.1 x).1
    clear hno
    go_wp2
    go_quiet (fail)
    go_wp2
    go_ret2
    exact ⟨below_drewN hb1 _, .inr ⟨HE.out, rfl⟩⟩
end Go.Proofs.YtmoenbdooilceaaDoor
