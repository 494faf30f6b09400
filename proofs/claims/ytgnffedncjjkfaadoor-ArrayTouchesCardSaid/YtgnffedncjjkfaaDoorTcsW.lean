/-
  The walk of the law ArrayTouches.
-/
import Derived.Test.YtgnffedncjjkfaaDoorTcsP
import Derived.Test.YtgnffedncjjkfaaDoorTilY
namespace Go.Proofs.YtgnffedncjjkfaaDoor
open Go.RowKit Ix Ar

set_option maxRecDepth 100000 in
set_option maxHeartbeats 1600000 in
/-- The same list twice. -/
theorem tsame_any (l : List Int) (A A' : Option Addr) (c c' B B' : Nat) (w : World) (h : Rd w B A (zints l)) (h' : Rd w B' A' (zints l)) (hL : l.length ≤ maxLen) :
    Calls Tryd.prog 10 #[.slice A l.length c, .slice A' l.length c'] w fun e w' => Below w.heap.size w w' ∧ e = .returned (.bool true) := by
  unfold maxLen at hL
  have HR := Lib.hid (fun W (hW : Below w.heap.size w W) k (hk : k < l.length) => show ∃ ad, A = some ad ∧ W.cell? (ad.add k) = some (.int .i64 l[k]) from by
    obtain ⟨ad, e1, e2, e3⟩ := h.zint hk
    exact ⟨ad, e1, (hW.cell (p := ad.add k) (World.block_lt_of_cell? _ _ e3)).trans e3⟩)
  have HR' := Lib.hid (fun W (hW : Below w.heap.size w W) k (hk : k < l.length) => show ∃ ad, A' = some ad ∧ W.cell? (ad.add k) = some (.int .i64 l[k]) from by
    obtain ⟨ad, e1, e2, e3⟩ := h'.zint hk
    exact ⟨ad, e1, (hW.cell (p := ad.add k) (World.block_lt_of_cell? _ _ e3)).trans e3⟩)
  clear h h'
  go_enter Tryd.func10, Tryd.ntmps10
  go_wp2_with fail
  go_loopw [5] (fun i wr => ∃ k : Nat, k ≤ l.length ∧ i = .int .i64 k ∧ Below w.heap.size w wr) (fun i _ => l.length - (intOf i).toNat)
  case atStart => exact ⟨0, Nat.zero_le _, rfl, Below.refl _ _⟩
  case round =>
    obtain ⟨k, hk, rfl, hb⟩ := hrel
    by_cases hlt : k < l.length
    · obtain ⟨ad, rfl, h1⟩ := HR.out wr hb k hlt
      obtain ⟨ad', rfl, h2⟩ := HR'.out wr hb k hlt
      generalize l[k] = x at *
      have hxx : (x != x) = false := by simp
      go_wp2_with fail
      go_quiet (fail)
      have hb2 := below_drewN hb nq
      go_wp2
      go_roundw
      case rel => exact ⟨k + 1, by omega, by go_num, hb2⟩
      case measure => simp [intOf]; omega
    · obtain rfl : k = l.length := by omega
      go_wp2
      go_ret
      exact ⟨hb, rfl⟩
set_option maxRecDepth 100000 in
set_option maxHeartbeats 6400000 in
theorem meets_any (B C : List Cut) (vb vc : Value) (w : World) (hb : IsK w w.heap.size vb B) (hc : IsK w w.heap.size vc C) (hl : B.length = C.length) (hn : B.length ≤ 4)
    (hB : ∀ k (h : k < B.length), 0 ≤ B[k].1 ∧ B[k].1 ≤ 1024 ∧ 0 ≤ B[k].2.1 ∧ B[k].2.1 ≤ 1024)
    (hC : ∀ k (h : k < C.length), 0 ≤ C[k].1 ∧ C[k].1 ≤ 1024 ∧ 0 ≤ C[k].2.1 ∧ C[k].2.1 ≤ 1025 ∧ ∀ j : Nat, (j : Int) < C[k].2.1 → 0 ≤ (j : Int) * C[k].2.2 ∧ C[k].1 + (j : Int) * C[k].2.2 ≤ 1024) (q : Bool) (hq : q = true ↔ Meets B C) :
    Calls Tryd.prog 9 #[vb, vc] w fun e w' => Below w.heap.size w w' ∧ e = .returned (.bool q) := by
  obtain ⟨A, c, rfl, -⟩ := hb.form
  obtain ⟨A', c', rfl, -⟩ := hc.form
  have HR := Lib.hid (fun W (hW : Below w.heap.size w W) k (hk : k < B.length) => (hb.rd.below hW).kut (i := k) hk)
  have HR' := Lib.hid (fun W (hW : Below w.heap.size w W) k (hk : k < C.length) => (hc.rd.below hW).kut (i := k) hk)
  have HB := Lib.hid hB
  have HC := Lib.hid hC
  have HL := Lib.hid hl
  have HQ := Lib.hid (fun (h : ∀ k (h1 : k < B.length) (h2 : k < C.length), Meet1 B[k] C[k]) => show q = true from hq.2 (fun k b c hb hc => by
    obtain ⟨h1, e1⟩ := List.getElem?_eq_some_iff.1 hb
    obtain ⟨h2, e2⟩ := List.getElem?_eq_some_iff.1 hc
    rw [← e1, ← e2]; exact h k h1 h2))
  have HQ0 := Lib.hid (fun k (h1 : k < B.length) (h2 : k < C.length) (h : ¬ Meet1 B[k] C[k]) => show q = false from bool_no hq fun m => h (m k _ _ (List.getElem?_eq_getElem h1) (List.getElem?_eq_getElem h2)))
  clear hb hc hq hB hC hl
  go_enter Tryd.func9, Tryd.ntmps9
  go_wp2_with fail
  go_loopw [5] (fun i wr => ∃ k : Nat, k ≤ B.length ∧ i = .int .i64 k ∧ Hid (∀ d (h1 : d < B.length) (h2 : d < C.length), d < k → Meet1 B[d] C[d]) ∧ Below w.heap.size w wr) (fun i _ => B.length - (intOf i).toNat)
  case atStart => exact ⟨0, Nat.zero_le _, rfl, (fun d _ _ h => absurd h (Nat.not_lt_zero _)), Below.refl _ _⟩
  case round =>
    obtain ⟨k, hk, rfl, HM, hB0⟩ := hrel
    by_cases hlt : k < B.length
    · have hltC : k < C.length := by rw [← HL.out]; exact hlt
      have HRk := Lib.hid (fun W (hW : Below w.heap.size w W) => HR.out W hW k hlt)
      have HRk' := Lib.hid (fun W (hW : Below w.heap.size w W) => HR'.out W hW k hltC)
      have hbb := HB.out k hlt
      have hcc := HC.out k hltC
      have HNX := Lib.hid (fun (h : Meet1 B[k] C[k]) => show ∀ d (h1 : d < B.length) (h2 : d < C.length), d < k + 1 → Meet1 B[d] C[d] from fun d h1 h2 h3 => by
        rcases Nat.lt_or_ge d k with h4 | h4
        · exact HM.out d h1 h2 h4
        · obtain rfl : d = k := by omega
          exact h)
      have HNO := Lib.hid (HQ0.out k hlt hltC)
      generalize B[k] = b at *
      generalize C[k] = x at *
      obtain ⟨b0, b1, b2⟩ := b
      obtain ⟨c0, c1, c2⟩ := x
      obtain ⟨n, rfl⟩ : ∃ n : Nat, c1 = (n : Int) := ⟨c1.toNat, by have := hcc.2.2.1; simp only at this; omega⟩
      have HD : Hid (Meet1 (b0, b1, b2) (c0, (n : Int), c2) ↔ ∃ j : Nat, j < n ∧ b0 ≤ c0 + (j : Int) * c2 ∧ c0 + (j : Int) * c2 < b0 + b1) := by
        show _ ↔ _
        unfold Meet1
        simp only [Int.toNat_natCast]
      simp only at hbb hcc
      obtain ⟨x1, x2, x3, x4⟩ := hbb
      obtain ⟨z1, z2, z3, z4, z5⟩ := hcc
      have HZ5 := Lib.hid z5
      clear z5
      go_wp2_with fail
      go_loopw [6, 7] (fun h j wr => ∃ (m : Nat) (t : Bool), m ≤ n ∧ j = .int .i64 m ∧ h = .bool t ∧ Hid (t = true ↔ ∃ j : Nat, j < m ∧ b0 ≤ c0 + (j : Int) * c2 ∧ c0 + (j : Int) * c2 < b0 + b1) ∧ Below w.heap.size w wr) (fun _ j _ => n - (intOf j).toNat)
      case atStart => exact ⟨0, false, Nat.zero_le _, rfl, rfl, (by show _ ↔ _; simp), hB0⟩
      case round =>
        clear hB0
        obtain ⟨m, t, hm, rfl, rfl, HT, hB1⟩ := hrel
        obtain ⟨adc, rfl, -, s0, s1, s2⟩ := HRk'.out wr hB1
        simp only at s0 s1 s2
        by_cases hlm : m < n
        · obtain ⟨f1, f2⟩ := HZ5.out m (by omega)
          have HN2 : Hid ((∃ j : Nat, j < m + 1 ∧ b0 ≤ c0 + (j : Int) * c2 ∧ c0 + (j : Int) * c2 < b0 + b1) ↔ t = true ∨ (b0 ≤ c0 + (m : Int) * c2 ∧ c0 + (m : Int) * c2 < b0 + b1)) := by
            show _ ↔ _
            rw [HT.out]
            constructor
            · rintro ⟨j, h1, h2⟩
              rcases Nat.lt_or_ge j m with h3 | h3
              · exact .inl ⟨j, h3, h2⟩
              · obtain rfl : j = m := by omega
                exact .inr h2
            · rintro (⟨j, h1, h2⟩ | h2)
              · exact ⟨j, by omega, h2⟩
              · exact ⟨m, by omega, h2⟩
          have w1' : IntKind.i64.wrap ((m : Int) * c2) = (m : Int) * c2 := IntWalk.i64_in _ (by omega)
          obtain ⟨md, hmd⟩ : ∃ md, md = (m : Int) * c2 := ⟨_, rfl⟩
          rw [← hmd] at f1 f2 HN2
          replace w1' : IntKind.i64.wrap ((m : Int) * c2) = md := w1'.trans hmd.symm
          clear hmd HT
          have w2' : IntKind.i64.wrap (c0 + md) = c0 + md := IntWalk.i64_in _ (by omega)
          go_wp2_with fail
          go_quiet (fail)
          have hB2 := below_drewN hB1 nq
          clear hB1 s0 s1 s2
          generalize wr.drewN nq = w2 at *
          obtain ⟨adb, rfl, -, t0, t1, t2⟩ := HRk.out w2 hB2
          simp only at t0 t1 t2
          have w3' : IntKind.i64.wrap (b0 + b1) = b0 + b1 := IntWalk.i64_in _ (by omega)
          cases t
          · by_cases y1 : b0 ≤ c0 + md
            · have e1 : decide (b0 ≤ c0 + md) = true := decide_eq_true y1
              by_cases y2 : c0 + md < b0 + b1
              · have e2 : decide (c0 + md < b0 + b1) = true := decide_eq_true y2
                have HO : Hid (true = true ↔ ∃ j : Nat, j < m + 1 ∧ b0 ≤ c0 + (j : Int) * c2 ∧ c0 + (j : Int) * c2 < b0 + b1) := by
                  show _ ↔ _
                  rw [HN2.out]; simp [y1, y2]
                clear HN2
                go_wp2_with fail
                go_quiet (fail)
                have hB3 := below_drewN hB2 nq
                go_wp2
                go_roundw
                case rel => exact ⟨m + 1, true, by omega, by go_num, rfl, (by show _ ↔ _; exact ⟨fun _ => HO.out.1 (by first | trivial | rfl), fun _ => rfl⟩), hB3⟩
                case measure => simp [intOf]; omega
              · have e2 : decide (c0 + md < b0 + b1) = false := decide_eq_false y2
                have HO : Hid (false = true ↔ ∃ j : Nat, j < m + 1 ∧ b0 ≤ c0 + (j : Int) * c2 ∧ c0 + (j : Int) * c2 < b0 + b1) := by
                  show _ ↔ _
                  rw [HN2.out]; simp [y1, y2]
                clear HN2
                go_wp2_with fail
                go_quiet (fail)
                have hB3 := below_drewN hB2 nq
                go_wp2
                go_roundw
                case rel => exact ⟨m + 1, false, by omega, by go_num, rfl, HO.out, hB3⟩
                case measure => simp [intOf]; omega
            · have e1 : decide (b0 ≤ c0 + md) = false := decide_eq_false y1
              have HO : Hid (false = true ↔ ∃ j : Nat, j < m + 1 ∧ b0 ≤ c0 + (j : Int) * c2 ∧ c0 + (j : Int) * c2 < b0 + b1) := by
                show _ ↔ _
                rw [HN2.out]; simp [y1]
              clear HN2
              go_wp2_with fail
              go_quiet (fail)
              have hB3 := below_drewN hB2 nq
              go_wp2
              go_roundw
              case rel => exact ⟨m + 1, false, by omega, by go_num, rfl, HO.out, hB3⟩
              case measure => simp [intOf]; omega
          · have HO : Hid (true = true ↔ ∃ j : Nat, j < m + 1 ∧ b0 ≤ c0 + (j : Int) * c2 ∧ c0 + (j : Int) * c2 < b0 + b1) := by
              show _ ↔ _
              rw [HN2.out]; simp
            clear HN2
            go_wp2_with fail
            go_quiet (fail)
            have hB3 := below_drewN hB2 nq
            go_wp2
            go_roundw
            case rel => exact ⟨m + 1, true, by omega, by go_num, rfl, (by show _ ↔ _; exact ⟨fun _ => HO.out.1 (by first | trivial | rfl), fun _ => rfl⟩), hB3⟩
            case measure => simp [intOf]; omega
        · obtain rfl : m = n := by omega
          cases t
          · have hqf := HNO.out (fun h => by have := HT.out.2 (HD.out.1 h); cases this)
            subst hqf
            clear HQ HQ0 HNO HNX HT HD
            go_wp2
            go_ret
            exact ⟨hB1, rfl⟩
          · have HOK := Lib.hid (HNX.out (HD.out.2 (HT.out.1 rfl)))
            clear HNX HNO HD HT
            go_wp2
            go_roundw
            case rel => exact ⟨k + 1, by omega, by go_num, HOK.out, hB1⟩
            case measure => simp [intOf]; omega
    · have hqt := HQ.out (fun d h1 h2 => HM.out d h1 h2 (by omega))
      subst hqt
      go_wp2
      go_ret
      exact ⟨hB0, rfl⟩
theorem bk4 {w : World} {g : Nat} {t : TypeId} {a b c d : Value} (h : Bk w g t #[a, b, c, d]) : w.cell? ⟨g, 0, none⟩ = some a ∧ w.cell? ⟨g, 1, none⟩ = some b ∧ w.cell? ⟨g, 2, none⟩ = some c ∧ w.cell? ⟨g, 3, none⟩ = some d := ⟨h.cell 0, h.cell 1, h.cell 2, h.cell 3⟩
set_option maxRecDepth 100000 in
set_option maxHeartbeats 12800000 in
theorem touches_walk (S Z I : List Int) (C : List Cut) (A Az Ai Ak : Option Addr) (c cz ci ck : Nat) (w : World) (hS : IsI w w.heap.size (.slice A S.length c) S) (hZ : IsI w w.heap.size (.slice Az Z.length cz) Z) (_ : IsI w w.heap.size (.slice Ai I.length ci) I) (hk : IsK w w.heap.size (.slice Ak C.length ck) C)
    (hSL : S.length ≤ maxLen) (hZL : Z.length ≤ maxLen) (_ : I.length ≤ maxLen) (hC : ∀ x ∈ C, In64 x) (hCL : C.length ≤ maxLen) (he : Env w) :
    Calls Tryd.prog 3 #[.agg #[.slice A S.length c, .slice Az Z.length cz, .slice Ai I.length ci, .slice Ak C.length ck]] w fun r w' => Below w.heap.size w w' ∧ r = .returned (.bool true) := by
  obtain ⟨qb, hqb⟩ : ∃ b : Bool, b = true ↔ Bigs S := by classical exact ⟨decide _, decide_eq_true_iff⟩
  have BG := Lib.hid (fun W (hW : Below w.heap.size w W) => big_any S A c w.heap.size W (hS.rd.below hW) hSL qb hqb)
  have SN := Lib.hid (fun W (hW : Below w.heap.size w W) => sane_any W (he.next hW))
  have B0 : BxW w [(w.heap.size, 25, #[.slice A S.length c, .slice Az Z.length cz, .slice Ai I.length ci, .slice Ak C.length ck])] (w.alloc (.cells #[.slice A S.length c, .slice Az Z.length cz, .slice Ai I.length ci, .slice Ak C.length ck] 25)) := (BxW.nil w).new _ _
  have F1 := Lib.hid (fun W (hW : Below w.heap.size w W) => touched_any S Z C _ _ _ W (hS.next hW) (hZ.next hW) (hk.next hW) hSL hZL hC hCL)
  have F2 := Lib.hid (fun W (hW : Below w.heap.size w W) => chunks_any S Z _ _ W (hS.next hW) (hZ.next hW) hSL hZL)
  cases hb : qb
  rotate_left
  · subst hb
    unfold maxLen at hZL hCL
    clear hqb F1 F2 hS hZ hk hC he
    go_enter Tryd.func3, Tryd.ntmps3
    go_wp2_with fail
    generalize w.alloc (.cells #[.slice A S.length c, .slice Az Z.length cz, .slice Ai I.length ci, .slice Ak C.length ck] 25) = W0 at *
    refine (BG.out W0 B0.below).mono ?_
    rintro r w' ⟨rfl, rfl⟩
    go_wp2_with fail
    refine (SN.out W0 B0.below).mono ?_
    rintro r w9 ⟨hb9, rfl⟩
    go_wp2
    go_ret
    exact ⟨(B0.next hb9).below, rfl⟩
  subst hb
  by_cases h1 : 10 < Z.length
  · unfold maxLen at hZL hCL
    clear hqb F1 F2 hS hZ hk hC he
    go_enter Tryd.func3, Tryd.ntmps3
    go_wp2_with fail
    generalize w.alloc (.cells #[.slice A S.length c, .slice Az Z.length cz, .slice Ai I.length ci, .slice Ak C.length ck] 25) = W0 at *
    obtain ⟨k0, k1, k2, k3⟩ := bk4 B0.one
    refine (BG.out W0 B0.below).mono ?_
    rintro r w' ⟨rfl, rfl⟩
    go_wp2_with fail
    refine (SN.out W0 B0.below).mono ?_
    rintro r w9 ⟨hb9, rfl⟩
    go_wp2
    go_ret
    exact ⟨(B0.next hb9).below, rfl⟩
  by_cases h3 : 10 < C.length
  · unfold maxLen at hZL hCL
    clear hqb F1 F2 hS hZ hk hC he
    go_enter Tryd.func3, Tryd.ntmps3
    go_wp2_with fail
    generalize w.alloc (.cells #[.slice A S.length c, .slice Az Z.length cz, .slice Ai I.length ci, .slice Ak C.length ck] 25) = W0 at *
    obtain ⟨k0, k1, k2, k3⟩ := bk4 B0.one
    refine (BG.out W0 B0.below).mono ?_
    rintro r w' ⟨rfl, rfl⟩
    go_wp2_with fail
    refine (SN.out W0 B0.below).mono ?_
    rintro r w9 ⟨hb9, rfl⟩
    go_wp2
    go_ret
    exact ⟨(B0.next hb9).below, rfl⟩
  by_cases hOK : sizedR S Z = 0 ∧ Fit S C
  rotate_left
  · have hbad : (touchedR S Z C).1 = [] ∧ ((touchedR S Z C).2 != 0) = true := by
      by_cases h0 : sizedR S Z = 0
      · have hF : ¬ Fit S C := fun h => hOK ⟨h0, h⟩
        rw [touchedR_slab h0 hF]
        exact ⟨rfl, rfl⟩
      · rw [touchedR_no C h0]
        exact ⟨rfl, by simp [h0]⟩
    obtain ⟨hl, hne⟩ := hbad
    rw [hl] at F1
    unfold maxLen at hZL hCL hSL
    generalize (touchedR S Z C).2 = e1 at *
    generalize (chunksR S Z).2 = e2 at *
    generalize (chunksR S Z).1 = l2 at *
    clear hqb hS hZ hk hC he hOK hl
    go_enter Tryd.func3, Tryd.ntmps3
    go_wp2_with fail
    generalize w.alloc (.cells #[.slice A S.length c, .slice Az Z.length cz, .slice Ai I.length ci, .slice Ak C.length ck] 25) = W0 at *
    obtain ⟨k0, k1, k2, k3⟩ := bk4 B0.one
    refine (BG.out W0 B0.below).mono ?_
    rintro r w' ⟨rfl, rfl⟩
    go_wp2_with fail
    refine (F1.out W0 B0.below).mono ?_
    rintro r w1 ⟨hb1, v1, rfl, hv1⟩
    obtain ⟨A1, c1, rfl⟩ := hv1.form
    have B1 := B0.next hb1
    clear k0 k1 k2 k3
    obtain ⟨k0, k1, k2, k3⟩ := bk4 B1.one
    go_wp2_with fail
    refine (F2.out w1 B1.below).mono ?_
    rintro r w2 ⟨hb2, v2, rfl, -⟩
    have B2 := B1.next hb2
    go_wp2_with fail
    refine (SN.out w2 B2.below).mono ?_
    rintro r w9 ⟨hb9, rfl⟩
    go_wp2
    go_ret
    exact ⟨(B2.next hb9).below, rfl⟩
  obtain ⟨h0, hF⟩ := hOK
  obtain ⟨hV, hZs⟩ := sizedR_is h0
  rw [touchedR_ok h0 hF, touched_ixg hV hZs hF] at F1
  rw [chunksR_ok h0] at F2
  obtain ⟨nn, hnn⟩ : ∃ nn, nn = nums (S.map Int.toNat) (Z.map Int.toNat) := ⟨_, rfl⟩
  obtain ⟨p, hp⟩ : ∃ p : Nat → Bool, p = fun i => ins (tls C (Z.map Int.toNat)) (idx nn i) := ⟨_, rfl⟩
  obtain ⟨N, hN⟩ : ∃ N, N = Ix.prod nn := ⟨_, rfl⟩
  rw [← hnn, ← hp, ← hN] at F1
  have hN2 : N ≤ 4096 := by
    have := (numsI_VS hV hZs).2.2
    rw [numsI_nat, ← hnn, ← hN] at this
    exact this
  have hlC := fit_len hF
  have h4 := hV.1
  have hCN : chN S Z = N := by unfold chN; rw [← hnn, hN]
  have hCLn : (chunkL S Z).length = N := by rw [chunkL_len, hCN]
  have HAT := Lib.hid (fun k (hk : k < N) => show (chunkL S Z)[k]? = some (chI S Z k) from chunkL_at (by rw [hCN]; exact hk))
  have HCI := Lib.hid (fun k => show chI S Z k = (idx nn k).map Int.ofNat from by rw [hnn]; rfl)
  have BX := Lib.hid (fun k (hk : k < N) W (hW : Below w.heap.size w W) (u : Value) (hu : IsI W W.heap.size u (chI S Z k)) => show Calls Tryd.prog 8 #[.slice A S.length c, .slice Az Z.length cz, u] W fun e w' => Below W.heap.size W w' ∧ ∃ v, e = .returned (.tuple #[v, .int .i64 0]) ∧ IsK w' w'.heap.size v (bxk S Z k) from by
    have h := box_any S Z (chI S Z k) (.slice A S.length c) (.slice Az Z.length cz) u W (hS.next hW) (hZ.next hW) hu hSL hZL
    rw [bxk_box ⟨hV, hZs⟩ (by rw [hCN]; exact hk)] at h
    exact h)
  have HBL := Lib.hid (fun k (hk : k < N) => show (bxk S Z k).length = S.length from bxk_len ⟨hV, hZs⟩ (by rw [hCN]; exact hk))
  have MT := Lib.hid (fun k (hk2 : k < N) W (hW : Below w.heap.size w W) (u : Value) (hu : IsK W W.heap.size u (bxk S Z k)) => show Calls Tryd.prog 9 #[u, .slice Ak C.length ck] W fun e w' => Below W.heap.size W w' ∧ e = .returned (.bool (p k)) from by
    have hk' : k < chN S Z := by rw [hCN]; exact hk2
    have hbl := bxk_len ⟨hV, hZs⟩ hk'
    have hbf := bxk_fit ⟨hV, hZs⟩ hk'
    have fitC : ∀ {X : List Cut} (hX : Fit S X) j (h : j < X.length), ∃ s : Int, FitC X[j] s ∧ s ≤ 1024 := fun {X} hX j h => by
      have h1 := ((fit_iff _ _).1 hX).2 j (by rw [← fit_len hX]; exact h)
      rw [List.getD_eq_getElem?_getD, List.getElem?_eq_getElem h] at h1
      have hjS : j < S.length := by rw [← fit_len hX]; exact h
      exact ⟨_, h1, by rw [← getD_zint hjS]; exact (hV.2.1 _ (List.getElem_mem _)).2⟩
    have cle : ∀ {x : Cut} {s : Int}, FitC x s → s ≤ 1024 → x.2.1 ≤ 1024 := fun {x s} h h2 => by
      rcases Int.lt_or_le 0 x.2.1 with h6 | h6
      · obtain ⟨h7, h8⟩ := h.2.2.2.2 h6
        have h9 := Int.ediv_le_self (a := s - 1 - x.1) x.2.2 (by omega)
        have := h.1
        omega
      · omega
    refine meets_any (bxk S Z k) C u _ W hu (hk.next hW) (by rw [hbl, hlC]) (by rw [hbl]; exact h4) (fun j h => ?_) (fun j h => ?_) (p k) (by rw [hp, hnn]; exact chunk_meets hV hZs hF k)
    · obtain ⟨s, hs, hs2⟩ := fitC hbf j h
      have := cle hs hs2
      exact ⟨hs.1, by have := hs.2.2.2.1; omega, hs.2.1, this⟩
    · obtain ⟨s, hs, hs2⟩ := fitC hF j h
      have := cle hs hs2
      exact ⟨hs.1, by have := hs.2.2.2.1; omega, hs.2.1, by omega, fun i hi => by
        have := fitC_at hs (i := (i : Int)) (by omega) hi
        exact ⟨this.1, by omega⟩⟩)
  have HXA := Lib.hid (fun i (hi : i < N) (h : p i = true) => ixg_at (nn := nn) hi h)
  have HXN := Lib.hid (fun i => ixg_next nn p i)
  have HXL := Lib.hid (fun i => ixg_len nn p i)
  have HCS := Lib.hid (fun k => show ((idx nn k).map Int.ofNat).length ≤ maxLen from by
    rw [List.length_map, idx_len, hnn, nums_len (zs_len hZs), List.length_map]; exact hSL)
  have hSC : ((C.length : Int) != (S.length : Int)) = false := by simp; omega
  have hSS : ((S.length : Int) != (S.length : Int)) = false := by simp
  unfold maxLen at hZL hCL hSL
  clear hqb hS hZ hk hC he hV hZs hF h0 hp hnn hN hCN hlC
  generalize chI S Z = cI at *
  generalize bxk S Z = bk at *
  generalize chunkL S Z = cl at *
  have HCL := Lib.hid hCLn
  clear hCLn
  go_enter Tryd.func3, Tryd.ntmps3
  go_wp2_with fail
  generalize w.alloc (.cells #[.slice A S.length c, .slice Az Z.length cz, .slice Ai I.length ci, .slice Ak C.length ck] 25) = W0 at *
  obtain ⟨k0, k1, k2, k3⟩ := bk4 B0.one
  refine (BG.out W0 B0.below).mono ?_
  rintro r w' ⟨rfl, rfl⟩
  go_wp2_with fail
  refine (F1.out W0 B0.below).mono ?_
  rintro r w1 ⟨hb1, v1, rfl, hv1⟩
  obtain ⟨A1, c1, e1⟩ := hv1.form
  obtain ⟨NN, hNN⟩ : ∃ NN, NN = (ixg nn p N).length := ⟨_, rfl⟩
  rw [← hNN] at e1
  subst e1
  have HNN := Lib.hid hNN
  clear hNN
  have B1 := B0.next hb1
  clear k0 k1 k2 k3 B0 BG F1
  obtain ⟨k0, k1, k2, k3⟩ := bk4 B1.one
  go_wp2_with fail
  refine (F2.out w1 B1.below).mono ?_
  rintro r w2 ⟨hb2, v2, rfl, hv2⟩
  obtain ⟨A2, c2, e2⟩ := hv2.form
  rw [HCL.out] at e2
  subst e2
  have B2 := B1.next hb2
  replace hv1 := hv1.next hb2
  clear k0 k1 k2 k3 B1 F2 hb1 hb2
  obtain ⟨k0, k1, k2, k3⟩ := bk4 B2.one
  clear k0 k1 k2 k3
  obtain ⟨k0, k1, k2, k3⟩ := bk4 B2.one
  go_wp2_with fail
  clear k0 k1 k2 k3
  go_loopw [7, 8] (fun kk i wr => ∃ m : Nat, m ≤ N ∧ i = .int .i64 m ∧ kk = .int .i64 (((ixg nn p m).length : Nat) : Int) ∧ BxW w [(w.heap.size, 25, #[.slice A S.length c, .slice Az Z.length cz, .slice Ai I.length ci, .slice Ak C.length ck])] wr ∧ Below w2.heap.size w2 wr) (fun _ i _ => N - (intOf i).toNat)
  case atStart => exact ⟨0, Nat.zero_le _, rfl, rfl, B2, Below.refl _ _⟩
  case round =>
    clear B2
    obtain ⟨m, hm, rfl, rfl, B, hb⟩ := hrel
    have hXLm := HXL.out m
    by_cases hlt : m < N
    · obtain ⟨ad, A3, c3, rfl, hab, hcw, hIg⟩ := hv2.at (HAT.out m hlt)
      have hab2 : (ad.add m).block < w2.heap.size := by rw [addr_block]; exact hab
      have hcg := (hb.cell (p := ad.add m) hab2).trans hcw
      have hIg' := (hIg.below hb).more hb.size
      have BXm := Lib.hid (BX.out m hlt)
      have MTm := Lib.hid (MT.out m hlt)
      have HBLm := HBL.out m hlt
      have HCIm := HCI.out m
      have hCSm := HCS.out m
      rw [← HCIm] at hCSm
      have HXAm := Lib.hid (HXA.out m hlt)
      rw [← HCIm] at HXAm
      have HXNm := Lib.hid (HXN.out m)
      generalize bk m = bm at *
      generalize cI m = im at *
      clear HCIm
      obtain ⟨k0, k1, k2, k3⟩ := bk4 B.one
      go_wp2_with fail
      refine wp_region_held_drew (S := fun Y => (Y.cell? ⟨w.heap.size, 0, none⟩ = some (.slice A S.length c) ∧ Y.cell? ⟨w.heap.size, 1, none⟩ = some (.slice Az Z.length cz)) ∧ Y.cell? (ad.add m) = some (.slice A3 im.length c3)) (by kernel_rfl) ⟨⟨k0, k1⟩, hcg⟩ (fun hS => ?_)
      clear k0 k1 k2 k3
      have Bd := B.drew
      have hbd := hb.drew
      have hId : IsI wr.drew wr.drew.heap.size (.slice A3 im.length c3) im := hIg'.below (Below.refl _ wr).drew
      clear B hb hIg' hcg
      generalize wr.drew = wd at *
      refine takeA (i := 0) (v := ?_) rfl (by kernel_rfl) (by kernel_rfl) (by kernel_rfl) (fun _ _ _ h => h) (by rfl) (by assumption) ?_ ?_
      rotate_left
      · intro w hSw; (try dsimp only at hSw); go_simp <;> with_reducible rfl
      try simp only [Act.put, List.setIfInBounds_toArray, List.set_cons_zero, List.set_cons_succ]
      refine takeA (i := 1) (v := ?_) rfl (by kernel_rfl) (by kernel_rfl) (by kernel_rfl) (fun _ _ _ h => h) (by rfl) (by assumption) ?_ ?_
      rotate_left
      · intro w hSw; (try dsimp only at hSw); go_simp <;> with_reducible rfl
      try simp only [Act.put, List.setIfInBounds_toArray, List.set_cons_zero, List.set_cons_succ]
      refine takeA (i := 2) (v := ?_) rfl (by kernel_rfl) (by kernel_rfl) (by kernel_rfl) (fun _ _ _ h => h) (by rfl) (by assumption) ?_ ?_
      rotate_left
      · intro w hSw; (try dsimp only at hSw); go_simp <;> with_reducible rfl
      try simp only [Act.put, List.setIfInBounds_toArray, List.set_cons_zero, List.set_cons_succ]
      refine takeA (i := 3) (v := ?_) rfl (by kernel_rfl) (by kernel_rfl) (by kernel_rfl) (fun _ _ _ h => h) (by rfl) (by assumption) ?_ ?_
      rotate_left
      · intro w hSw; (try dsimp only at hSw); go_simp <;> with_reducible rfl
      try simp only [Act.put, List.setIfInBounds_toArray, List.set_cons_zero, List.set_cons_succ]
      refine takeA (i := 4) (v := ?_) rfl (by kernel_rfl) (by kernel_rfl) (by kernel_rfl) (fun _ _ _ h => h) (by rfl) (by assumption) ?_ ?_
      rotate_left
      · intro w hSw; (try dsimp only at hSw); go_simp <;> with_reducible rfl
      try simp only [Act.put, List.setIfInBounds_toArray, List.set_cons_zero, List.set_cons_succ]
      refine takeA (i := 5) (v := ?_) rfl (by kernel_rfl) (by kernel_rfl) (by kernel_rfl) (fun _ _ _ h => h) (by rfl) (by assumption) ?_ ?_
      rotate_left
      · intro w hSw; (try dsimp only at hSw); go_simp <;> with_reducible rfl
      try simp only [Act.put, List.setIfInBounds_toArray, List.set_cons_zero, List.set_cons_succ]
      refine takeA (i := 6) (v := ?_) rfl (by kernel_rfl) (by kernel_rfl) (by kernel_rfl) (fun _ _ _ h => h) (by rfl) (by assumption) ?_ ?_
      rotate_left
      · intro w hSw; (try dsimp only at hSw); go_simp <;> with_reducible rfl
      try simp only [Act.put, List.setIfInBounds_toArray, List.set_cons_zero, List.set_cons_succ]
      refine takeA (i := 7) (v := ?_) rfl (by kernel_rfl) (by kernel_rfl) (by kernel_rfl) (fun _ _ _ h => h) (by rfl) (by assumption) ?_ ?_
      rotate_left
      · intro w hSw; (try dsimp only at hSw); go_simp <;> with_reducible rfl
      try simp only [Act.put, List.setIfInBounds_toArray, List.set_cons_zero, List.set_cons_succ]
      refine stepA (i := 8) rfl (by kernel_rfl) (fun K0 hK0 => ?_)
      go_simp
      refine (BXm.out wd Bd.below _ hId).mono ?_
      rintro e w6 ⟨hb6, v6, rfl, hK6⟩
      obtain ⟨A6, c6, e6, -⟩ := hK6.form
      rw [HBLm] at e6
      subst e6
      have B6 := Bd.next hb6
      have hz6 := hbd.trans (hb6.mono hbd.size)
      have k6 := bk4 B6.one
      dsimp only
      refine hK0.out _ _ ⟨⟨k6.1, k6.2.1⟩, (hz6.cell (p := ad.add m) hab2).trans hcw⟩ (fun hS6 => ?_)
      clear hK0 K0 hS hb6 Bd hbd hId BXm
      try simp only [Act.put, List.setIfInBounds_toArray, List.set_cons_zero, List.set_cons_succ]
      refine takeA (i := 9) (v := ?_) rfl (by kernel_rfl) (by kernel_rfl) (by kernel_rfl) (fun _ _ _ h => h) (by rfl) (by assumption) ?_ ?_
      rotate_left
      · intro w hSw; (try dsimp only at hSw); go_simp <;> with_reducible rfl
      try simp only [Act.put, List.setIfInBounds_toArray, List.set_cons_zero, List.set_cons_succ]
      refine takeA (i := 10) (v := ?_) rfl (by kernel_rfl) (by kernel_rfl) (by kernel_rfl) (fun _ _ _ h => h) (by rfl) (by assumption) ?_ ?_
      rotate_left
      · intro w hSw; (try dsimp only at hSw); go_simp <;> with_reducible rfl
      try simp only [Act.put, List.setIfInBounds_toArray, List.set_cons_zero, List.set_cons_succ]
      refine takeA (i := 11) (v := ?_) rfl (by kernel_rfl) (by kernel_rfl) (by kernel_rfl) (fun _ _ _ h => h) (by rfl) (by assumption) ?_ ?_
      rotate_left
      · intro w hSw; (try dsimp only at hSw); go_simp <;> with_reducible rfl
      try simp only [Act.put, List.setIfInBounds_toArray, List.set_cons_zero, List.set_cons_succ]
      refine takeA (i := 12) (v := ?_) rfl (by kernel_rfl) (by kernel_rfl) (by kernel_rfl) (fun _ _ _ h => h) (by rfl) (by assumption) ?_ ?_
      rotate_left
      · intro w hSw; (try dsimp only at hSw); go_simp <;> with_reducible rfl
      try simp only [Act.put, List.setIfInBounds_toArray, List.set_cons_zero, List.set_cons_succ]
      refine takeA (i := 13) (v := ?_) rfl (by kernel_rfl) (by kernel_rfl) (by kernel_rfl) (fun _ _ _ h => h) (by rfl) (by assumption) ?_ ?_
      rotate_left
      · intro w hSw; (try dsimp only at hSw); go_simp <;> with_reducible rfl
      try simp only [Act.put, List.setIfInBounds_toArray, List.set_cons_zero, List.set_cons_succ]
      refine wpAnyH_done (by kernel_rfl) ?_ _
      clear hS6 HBLm
      obtain ⟨k0, k1, k2, k3⟩ := k6
      go_wp2_with fail
      refine (MTm.out w6 B6.below _ hK6).mono ?_
      rintro e w7 ⟨hb7, rfl⟩
      have B7 := B6.next hb7
      have hz7 := hz6.trans (hb7.mono hz6.size)
      clear k0 k1 k2 k3 MTm hK6 hb7 B6 hz6
      cases hpm : p m
      · have HO : Hid ((ixg nn p (m + 1)).length = (ixg nn p m).length) := by
          have h := HXNm.out
          rw [hpm, if_neg (by decide)] at h
          show _ = _
          rw [h]
        clear HXNm HXAm hpm
        go_wp2
        go_roundw
        case rel => exact ⟨m + 1, by omega, by go_num, by rw [HO.out], B7, hz7⟩
        case measure => simp [intOf]; omega
      · obtain ⟨g1, g2⟩ := HXAm.out hpm
        obtain ⟨ad1, A4, c4, rfl, hab1, hcw1, hI1⟩ := hv1.at g1
        have hlt1 := (List.getElem?_eq_some_iff.1 g1).1
        rw [← HNN.out] at hlt1
        have HO := Lib.hid g2
        clear g1 g2 HXNm HXAm hpm
        have hab4 : (ad1.add (ixg nn p m).length).block < w2.heap.size := by rw [addr_block]; exact hab1
        have d1 := (hz7.cell hab4).trans hcw1
        have d2 := (hz7.cell hab2).trans hcw
        generalize (ixg nn p m).length = mm at *
        have y1 : ∀ i : Decidable (NN ≤ mm), @decide (NN ≤ mm) i = false := fun _ => decide_eq_false (by omega)
        have ww : IntKind.i64.wrap ((mm : Int) + 1) = ((mm + 1 : Nat) : Int) := (IntWalk.i64_in _ (by omega)).trans (by omega)
        have B8 := B7.drew
        have hz8 := hz7.drew
        have SA := Lib.hid (tsame_any im A4 A3 c4 c3 w2.heap.size w2.heap.size w7.drew (hI1.rd.below hz8) (hIg.rd.below hz8) hCSm)
        go_wp2_with fail
        refine wp_region_held_drew (S := fun Y => Y.cell? (ad1.add mm) = some (.slice A4 im.length c4) ∧ Y.cell? (ad.add m) = some (.slice A3 im.length c3)) (by kernel_rfl) ⟨d1, d2⟩ (fun hS => ?_)
        clear d1 d2 B7 hz7
        refine takeA (i := 0) (v := ?_) rfl (by kernel_rfl) (by kernel_rfl) (by kernel_rfl) (fun _ _ _ h => h) (by rfl) (by assumption) ?_ ?_
        rotate_left
        · intro w hSw; (try dsimp only at hSw); go_simp <;> with_reducible rfl
        try simp only [Act.put, List.setIfInBounds_toArray, List.set_cons_zero, List.set_cons_succ]
        refine takeA (i := 1) (v := ?_) rfl (by kernel_rfl) (by kernel_rfl) (by kernel_rfl) (fun _ _ _ h => h) (by rfl) (by assumption) ?_ ?_
        rotate_left
        · intro w hSw; (try dsimp only at hSw); go_simp <;> with_reducible rfl
        try simp only [Act.put, List.setIfInBounds_toArray, List.set_cons_zero, List.set_cons_succ]
        refine takeA (i := 2) (v := ?_) rfl (by kernel_rfl) (by kernel_rfl) (by kernel_rfl) (fun _ _ _ h => h) (by rfl) (by assumption) ?_ ?_
        rotate_left
        · intro w hSw; (try dsimp only at hSw); go_simp <;> with_reducible rfl
        try simp only [Act.put, List.setIfInBounds_toArray, List.set_cons_zero, List.set_cons_succ]
        refine takeA (i := 3) (v := .bool false) rfl (by kernel_rfl) (by kernel_rfl) (by kernel_rfl) (fun _ _ _ h => h) (by rfl) (by assumption) ?_ ?_
        · intro w hSw; go_simp
        try simp only [Act.put, List.setIfInBounds_toArray, List.set_cons_zero, List.set_cons_succ]
        refine takeA (i := 4) (v := ?_) rfl (by kernel_rfl) (by kernel_rfl) (by kernel_rfl) (fun _ _ _ h => h) (by rfl) (by assumption) ?_ ?_
        rotate_left
        · intro w hSw; (try dsimp only at hSw); go_simp <;> with_reducible rfl
        try simp only [Act.put, List.setIfInBounds_toArray, List.set_cons_zero, List.set_cons_succ]

        refine takeA (i := 5) (v := ?_) rfl (by kernel_rfl) (by kernel_rfl) (by kernel_rfl) (fun _ _ _ h => h) (by rfl) (by assumption) ?_ ?_
        rotate_left
        · intro w hSw; (try dsimp only at hSw); go_simp <;> with_reducible rfl
        try simp only [Act.put, List.setIfInBounds_toArray, List.set_cons_zero, List.set_cons_succ]
        refine takeA (i := 6) (v := ?_) rfl (by kernel_rfl) (by kernel_rfl) (by kernel_rfl) (fun _ _ _ h => h) (by rfl) (by assumption) ?_ ?_
        rotate_left
        · intro w hSw; (try dsimp only at hSw); go_simp <;> with_reducible rfl
        try simp only [Act.put, List.setIfInBounds_toArray, List.set_cons_zero, List.set_cons_succ]
        refine takeA (i := 7) (v := ?_) rfl (by kernel_rfl) (by kernel_rfl) (by kernel_rfl) (fun _ _ _ h => h) (by rfl) (by assumption) ?_ ?_
        rotate_left
        · intro w hSw; (try dsimp only at hSw); go_simp <;> with_reducible rfl
        try simp only [Act.put, List.setIfInBounds_toArray, List.set_cons_zero, List.set_cons_succ]
        refine takeA (i := 8) (v := ?_) rfl (by kernel_rfl) (by kernel_rfl) (by kernel_rfl) (fun _ _ _ h => h) (by rfl) (by assumption) ?_ ?_
        rotate_left
        · intro w hSw; (try dsimp only at hSw); go_simp <;> with_reducible rfl
        try simp only [Act.put, List.setIfInBounds_toArray, List.set_cons_zero, List.set_cons_succ]
        refine takeA (i := 9) (v := ?_) rfl (by kernel_rfl) (by kernel_rfl) (by kernel_rfl) (fun _ _ _ h => h) (by rfl) (by assumption) ?_ ?_
        rotate_left
        · intro w hSw; (try dsimp only at hSw); go_simp <;> with_reducible rfl
        try simp only [Act.put, List.setIfInBounds_toArray, List.set_cons_zero, List.set_cons_succ]
        refine takeA (i := 10) (v := ?_) rfl (by kernel_rfl) (by kernel_rfl) (by kernel_rfl) (fun _ _ _ h => h) (by rfl) (by assumption) ?_ ?_
        rotate_left
        · intro w hSw; (try dsimp only at hSw); go_simp <;> with_reducible rfl
        try simp only [Act.put, List.setIfInBounds_toArray, List.set_cons_zero, List.set_cons_succ]
        refine takeA (i := 11) (v := ?_) rfl (by kernel_rfl) (by kernel_rfl) (by kernel_rfl) (fun _ _ _ h => h) (by rfl) (by assumption) ?_ ?_
        rotate_left
        · intro w hSw; (try dsimp only at hSw); go_simp <;> with_reducible rfl
        try simp only [Act.put, List.setIfInBounds_toArray, List.set_cons_zero, List.set_cons_succ]
        refine takeA (i := 12) (v := ?_) rfl (by kernel_rfl) (by kernel_rfl) (by kernel_rfl) (fun _ _ _ h => h) (by rfl) (by assumption) ?_ ?_
        rotate_left
        · intro w hSw; (try dsimp only at hSw); go_simp <;> with_reducible rfl
        try simp only [Act.put, List.setIfInBounds_toArray, List.set_cons_zero, List.set_cons_succ]
        refine stepA (i := 13) rfl (by kernel_rfl) (fun K0 hK0 => ?_)
        go_simp
        refine SA.out.mono ?_
        rintro e w9 ⟨hb9, rfl⟩
        have B9 := B8.next hb9
        have hz9 := hz8.trans (hb9.mono hz8.size)
        dsimp only
        refine hK0.out _ _ ⟨(hz9.cell hab4).trans hcw1, (hz9.cell hab2).trans hcw⟩ (fun hS9 => ?_)
        clear hK0 K0 hS hb9 B8 hz8 SA
        try simp only [Act.put, List.setIfInBounds_toArray, List.set_cons_zero, List.set_cons_succ]
        refine takeA (i := 14) (v := ?_) rfl (by kernel_rfl) (by kernel_rfl) (by kernel_rfl) (fun _ _ _ h => h) (by rfl) (by assumption) ?_ ?_
        rotate_left
        · intro w hSw; (try dsimp only at hSw); go_simp <;> with_reducible rfl
        try simp only [Act.put, List.setIfInBounds_toArray, List.set_cons_zero, List.set_cons_succ]
        refine takeA (i := 15) (v := ?_) rfl (by kernel_rfl) (by kernel_rfl) (by kernel_rfl) (fun _ _ _ h => h) (by rfl) (by assumption) ?_ ?_
        rotate_left
        · intro w hSw; (try dsimp only at hSw); go_simp <;> with_reducible rfl
        try simp only [Act.put, List.setIfInBounds_toArray, List.set_cons_zero, List.set_cons_succ]
        refine wpAnyH_done (by kernel_rfl) ?_ _
        go_wp2
        go_roundw
        case rel => exact ⟨m + 1, by omega, by go_num, by rw [HO.out]; first | rfl | (push_cast; rfl) | simp, B9, hz9⟩
        case measure => simp [intOf]; omega
    · obtain rfl : m = N := by omega
      have hNN := HNN.out
      subst hNN
      go_wp2_with fail
      refine (SN.out wr B.below).mono ?_
      rintro r w9 ⟨hb9, rfl⟩
      go_wp2
      go_ret
      exact ⟨(B.next hb9).below, rfl⟩
end Go.Proofs.YtgnffedncjjkfaaDoor

