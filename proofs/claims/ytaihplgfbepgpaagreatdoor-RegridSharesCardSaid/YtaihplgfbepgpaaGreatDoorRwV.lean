/-
  Walks: slices.Grow and slices.Concat of cells; a grid of valid cells with a period.
  The reference: the weights between two grids (printed by rwgen.py).
  Package regrid: the weights between two grids (printed by rwgen.py).
  Walks: sameWeights; the law RegridWeights.
-/
import Derived.Test.YtaihplgfbepgpaaGreatDoorRrV
import Derived.Lib.AppendZeros
import Derived.Test.YtaihplgfbepgpaaGreatDoorRgV
namespace Go.Proofs.YtaihplgfbepgpaaGreatDoor
open Go.RowKit Ar

theorem Tryz.wcell_info : (Tryz.prog.info? 33).map (fun i => (i.zero, i.size, i.bytes)) = some (some (.agg #[.slice none 0 0, .bool false]), 2, 32) := by kernel_rfl

set_option maxRecDepth 100000 in
set_option maxHeartbeats 1600000 in
theorem growC_any (n : Nat) (w : World) (hn : n ≤ 1000000) :
    Calls Tryz.prog 69 #[.slice none 0 0, .int .i64 n] w fun e w' => Below w.heap.size w w' ∧ ∃ v, e = .returned v ∧ w'.ownsRow w.heap.size 33 2 v 0 [] := by
  obtain ⟨i0, hi0, hz0, hz1, hz2⟩ := info_parts Tryz.wcell_info
  rcases Nat.eq_zero_or_pos n with h0 | h0
  · subst h0
    go_enter Tryz.func69, Tryz.ntmps69
    go_wp2
    go_ret
    exact ⟨Below.refl _ _, _, rfl, World.ownsRow_nil _ _ _ _⟩
  · have hr := fun ty => Lib.run_append_nil_zeros (P := Tryz.prog) w 22 3 ty 33 i0 _ .i64 .i64 Tryz.underlying22 Tryz.underlying3 hi0 hz0 n h0 (by omega) (by omega) (by rw [hz2]; omega)
    have hG1 := grownCap_ge w n 0 33
    have hG2 := grownCap_le_maxLen w n 0 33 (by unfold maxLen; omega)
    generalize grownCap w n 0 33 = G at *
    have ww1 : IntKind.i64.wrap (n : Int) = (n : Int) := IntWalk.i64_in _ (by omega)
    have n1 : ¬ (n : Int) < 0 := by omega
    have n2 : (0 : Int) < (n : Int) := by omega
    have hG3 : (0 : Int) ≤ (G : Int) := by omega
    go_enter Tryz.func69, Tryz.ntmps69
    go_wp2_with (at_builtin; refine Lib.wpList_append_run _ rfl _ _ _ _ rfl _ _ rfl rfl _ _ (hr _) ?_)
    go_ret
    refine ⟨(Below.refl _ _).drew.alloc (Nat.le_refl _) _, _, rfl, ?_⟩
    refine World.ownsRow_made _ _ G (Nat.le_refl _) hG2 ?_
    simp [size_zeroCells]
    omega

theorem IsC.one {w : World} {B : Nat} {u : Value} {l : List Pl} {m : Bool} (h : IsC w B (.agg #[u, .bool m]) l m) : u.oneCell' = true := by
  obtain ⟨A, c, e, _⟩ := h
  simp at e
  rw [e]; rfl
theorem crow_one {w : World} {B : Nat} {L : List Ce} {S : List (Value × Bool)} (hS : S.length = L.length) (h : ∀ (i : Nat) (x : Ce), L[i]? = some x → ∃ u, S[i]? = some (u, x.2) ∧ IsC w B (.agg #[u, .bool x.2]) x.1 x.2) : ∀ u ∈ crow S, u.oneCell' = true := fun u hu => by
  obtain ⟨p, hp, hu⟩ := List.mem_flatMap.1 hu
  obtain ⟨i, hi⟩ := List.getElem?_of_mem hp
  have hlt := (List.getElem?_eq_some_iff.1 hi).1
  obtain ⟨u', h1, h2⟩ := h i _ (List.getElem?_eq_getElem (show i < L.length by omega))
  rw [hi] at h1
  injection h1 with h1
  subst h1
  simp at hu
  rcases hu with rfl | rfl
  · exact h2.one
  · rfl
theorem crow_length (S : List (Value × Bool)) : (crow S).length = S.length * 2 := by
  induction S with
  | nil => rfl
  | cons q S ih => show (q.1 :: .bool q.2 :: crow S).length = _; simp [ih]; omega

theorem own_mono {w : World} {b b' : Nat} {e : TypeId} {size n : Nat} {v : Value} {xs : List Value} (h : w.ownsRow b e size v n xs) (hb : b' ≤ b) : w.ownsRow b' e size v n xs := by
  refine ⟨h.1, ?_⟩
  rcases h.2 with h0 | ⟨g, cap, cur, h1, h2, h3⟩
  · exact .inl h0
  · exact .inr ⟨g, cap, cur, h1, Nat.le_trans hb h2, h3⟩

set_option maxRecDepth 100000 in
set_option maxHeartbeats 3200000 in
theorem concatC_any (L M : List Ce) (u v : Value) (b : Nat) (w : World) (hL : IsCs w w.heap.size u L) (hM : IsCs w w.heap.size v M) (hk : Bk w b 22 #[u, v]) (hLM : L.length + M.length ≤ 1000000) :
    Calls Tryz.prog 37 #[.slice (some ⟨b, 0, none⟩) 2 2] w fun e w' => Below w.heap.size w w' ∧ ∃ r, e = .returned r ∧ IsCs w' w'.heap.size r (L ++ M) := by
  obtain ⟨i0, hi0, hz0, hz1, hz2⟩ := info_parts Tryz.wcell_info
  obtain ⟨A, c, S, rfl, hc, hS, hr, hI⟩ := hL
  obtain ⟨A', c', S', rfl, hc', hS', hr', hI'⟩ := hM
  have one1 := crow_one hS hI
  have one2 := crow_one hS' hI'
  have ln1 : (crow S).length = L.length * 2 := by rw [crow_length, hS]
  have ln2 : (crow S').length = M.length * 2 := by rw [crow_length, hS']
  have hcsz := hk.lt
  have ww1 : IntKind.i64.wrap (L.length : Int) = (L.length : Int) := IntWalk.i64_in _ (by omega)
  have ww2 : IntKind.i64.wrap ((L.length : Int) + M.length) = (L.length : Int) + M.length := IntWalk.i64_in _ (by omega)
  have GR := Lib.hid (fun X => growC_any (L.length + M.length) X hLM)
  rw [Int.natCast_add] at GR
  have HI := Lib.hid hI
  have HI' := Lib.hid hI'
  clear hI hI' hc hc'
  go_enter Tryz.func37, Tryz.ntmps37
  go_wp2_with fail
  go_loopw [3, 11] (fun y x wr => ∃ k : Nat, ((k = 0 ∧ y = .int .i64 0) ∨ (k = 1 ∧ y = .int .i64 L.length) ∨ (k = 2 ∧ y = .int .i64 ((L.length : Int) + M.length))) ∧ x = .int .i64 k ∧ Below w.heap.size w wr) (fun _ x _ => 2 - (intOf x).toNat)
  case atStart => exact ⟨0, .inl ⟨rfl, rfl⟩, rfl, Below.refl _ _⟩
  case round =>
    obtain ⟨k, hk3, rfl, hB⟩ := hrel
    obtain ⟨g0, g1⟩ := bk2 (hk.below hB hcsz)
    rcases hk3 with ⟨rfl, rfl⟩ | ⟨rfl, rfl⟩ | ⟨rfl, rfl⟩
    · have n1 : ¬ (L.length : Int) < 0 := by omega
      go_wp2
      go_roundw
      case rel => exact ⟨1, .inr (.inl ⟨rfl, rfl⟩), rfl, hB⟩
      case measure => simp [intOf]
    · have n1 : ¬ (L.length : Int) + M.length < 0 := by omega
      go_wp2
      go_roundw
      case rel => exact ⟨2, .inr (.inr ⟨rfl, rfl⟩), rfl, hB⟩
      case measure => simp [intOf]
    · go_wp2_with fail
      refine (GR.out wr).mono ?_
      rintro e w1 ⟨hb1, v1, rfl, own1⟩
      have hs1 := hB.size
      have hB1 := hB.trans (hb1.mono hs1)
      clear g0 g1 GR hb1
      go_wp2_with fail
      go_loopw [6, 27] (fun y x wr => ∃ k : Nat, ((k = 0 ∧ ∃ n0, n0 = 0 ∧ World.ownsRow wr w.heap.size 33 2 y n0 []) ∨ (k = 1 ∧ ∃ n0, n0 = L.length ∧ World.ownsRow wr w.heap.size 33 2 y n0 (crow S)) ∨ (k = 2 ∧ ∃ n0, n0 = L.length + M.length ∧ World.ownsRow wr w.heap.size 33 2 y n0 (crow S ++ crow S'))) ∧ x = .int .i64 k ∧ Below w.heap.size w wr) (fun _ x _ => 2 - (intOf x).toNat)
      case atStart => exact ⟨0, .inl ⟨rfl, 0, rfl, own_mono own1 hs1⟩, rfl, hB1⟩
      case round =>
        clear hB hB1 hs1 own1
        obtain ⟨k, hk3, rfl, hB⟩ := hrel
        obtain ⟨g0, g1⟩ := bk2 (hk.below hB hcsz)
        have hs2 := hB.size
        rcases hk3 with ⟨rfl, n0, hn0, own⟩ | ⟨rfl, n0, hn0, own⟩ | ⟨rfl, n0, hn0, own⟩
        · go_wp2_with (at_builtin; refine wpL_append _ rfl (.tmp 31) (.tmp 32) _ rfl w.heap.size 33 i0 _ 2 32 Tryz.underlying22 hi0 hz0 hz1 hz2 rfl (by omega) _ n0 [] rfl own A L.length c (crow S) rfl ln1 (hr.below hB) one1 (by unfold maxLen; omega) (by omega) hs2 ?_; intro v5 w5 hw1 hw2 _)
          have hB5 := below_app hB hw2 hs2 own (Nat.le_refl _)
          rw [List.nil_append] at hw1
          have hn1 := Lib.hid (show n0 + L.length = L.length by omega)
          clear own hw2
          go_roundw
          case rel => exact ⟨1, .inr (.inl ⟨rfl, _, hn1.out, hw1⟩), rfl, hB5⟩
          case measure => simp [intOf]
        · go_wp2_with (at_builtin; refine wpL_append _ rfl (.tmp 31) (.tmp 32) _ rfl w.heap.size 33 i0 _ 2 32 Tryz.underlying22 hi0 hz0 hz1 hz2 rfl (by omega) _ n0 (crow S) rfl own A' M.length c' (crow S') rfl ln2 (hr'.below hB) one2 (by unfold maxLen; omega) (by omega) hs2 ?_; intro v5 w5 hw1 hw2 _)
          have hB5 := below_app hB hw2 hs2 own (Nat.le_refl _)
          have hn1 := Lib.hid (show n0 + M.length = L.length + M.length by omega)
          clear own hw2
          go_roundw
          case rel => exact ⟨2, .inr (.inr ⟨rfl, _, hn1.out, hw1⟩), rfl, hB5⟩
          case measure => simp [intOf]
        · obtain ⟨Ar, cr, rfl, hcr⟩ := own_slice own
          have hrd := Rd.of_own own
          have HRD := Lib.hid hrd
          clear own hrd
          go_wp2
          go_ret
          have hn0' : (L ++ M).length = n0 := by rw [List.length_append]; omega
          refine ⟨hB, _, rfl, Ar, cr, S ++ S', by rw [hn0']; rfl, by rw [hn0']; exact hcr, by rw [List.length_append, List.length_append, hS, hS'], by rw [crow_app]; exact HRD.out, ?_⟩
          intro i x hx
          rcases Nat.lt_or_ge i L.length with hi | hi
          · rw [List.getElem?_append_left hi] at hx
            obtain ⟨u, h1, h2⟩ := HI.out i x hx
            exact ⟨u, by rw [List.getElem?_append_left (by omega)]; exact h1, (h2.below hB).more hs2⟩
          · rw [List.getElem?_append_right hi] at hx
            obtain ⟨u, h1, h2⟩ := HI'.out _ x hx
            exact ⟨u, by rw [List.getElem?_append_right (by omega), hS]; exact h1, (h2.below hB).more hs2⟩
/-- Two cells of a grid that have a part in common, in the plane or around. -/
def clash (p : Int) (la lb : List Pl) : Prop := 0 < commonQ la lb 0 ∨ (0 < p ∧ 0 < rndQ la lb p)
def flatPTo (p : Int) (L : List Ce) (n : Nat) : Prop := ∀ (i k : Nat) (x y : Ce), i < n → L[i]? = some x → L[k]? = some y → k < i → ¬ clash p x.1 y.1
def flatP (p : Int) (L : List Ce) : Prop := flatPTo p L L.length
theorem flatP_zero (L : List Ce) : flatP 0 L ↔ flatG L := by
  rw [flatTo_all]
  unfold flatP flatPTo flatTo clash
  constructor
  · intro h i k x y h1 h2 h3 h4 h5; exact h i k x y h1 h2 h3 h4 (.inl h5)
  · intro h i k x y h1 h2 h3 h4 h5
    rcases h5 with h5 | h5
    · exact h i k x y h1 h2 h3 h4 h5
    · omega

set_option maxRecDepth 100000 in
set_option maxHeartbeats 3200000 in
theorem gridp_any (L : List Ce) (v : Value) (p : Int) (w : World) (h : IsCs w w.heap.size v L) (hval : ∀ x ∈ L, validC x.1) (hL : L.length ≤ 1000000) (hp : 0 < p) (hp2 : p ≤ 1048576) (hwid : ∀ x ∈ L, wid x.1 ≤ p) (z : Bool) (hz : z = true ↔ L.length ≤ 64 ∧ flatP p L) :
    Calls Tryz.prog 23 #[v, .int .i64 p] w fun e w' => Below w.heap.size w w' ∧ e = .returned (.bool z) := by
  obtain ⟨A, c, rfl⟩ := h.form
  have hcap := h.cap
  have HZ := Lib.hid hz
  have HV := Lib.hid hval
  have HWD := Lib.hid hwid
  clear hz hval hwid
  by_cases h64 : 64 < L.length
  · have hzf : z = false := by
      cases hzz : z
      · rfl
      · have := (HZ.out.1 hzz).1; omega
    subst hzf
    have h64' : (64 : Int) < L.length := by omega
    go_enter Tryz.func23, Tryz.ntmps23
    go_wp2
    go_ret
    exact ⟨Below.refl _ _, rfl⟩
  have h64' : ¬ (64 : Int) < L.length := by omega
  go_enter Tryz.func23, Tryz.ntmps23
  go_wp2_with fail
  go_loopw [14] (fun i wr => ∃ k : Nat, k ≤ L.length ∧ i = .int .i64 k ∧ Hid (flatPTo p L k) ∧ Below w.heap.size w wr) (fun i _ => L.length - (intOf i).toNat)
  case atStart => exact ⟨0, Nat.zero_le _, rfl, (fun i k x y hi => absurd hi (Nat.not_lt_zero _)), Below.refl _ _⟩
  case round =>
    obtain ⟨k, hk, rfl, HF, hB⟩ := hrel
    rcases Nat.lt_or_ge k L.length with hlt | hge
    · obtain ⟨ad, A1, c1, rfl, hab, d1, d2, hC⟩ := (h.below hB).at (i := k) (List.getElem?_eq_getElem hlt)
      have hxv := HV.out _ (List.getElem_mem hlt)
      have hxw := HWD.out _ (List.getElem_mem hlt)
      have HLK : Hid (L[k]? = some L[k]) := List.getElem?_eq_getElem hlt
      generalize L[k] = x at *
      obtain ⟨xl, xm⟩ := x
      simp only at d1 d2 hC hxv hxw
      have HXV : Hid (validC xl) := hxv
      have b0 : Below w.heap.size w (wr.alloc (.cells #[.slice A1 xl.length c1, .bool xm] 33)) := hB.alloc hB.size _
      have k0 := Bk.new wr 33 #[.slice A1 xl.length c1, .bool xm]
      have hC0 : IsC (wr.alloc (.cells #[.slice A1 xl.length c1, .bool xm] 33)) (wr.alloc (.cells #[.slice A1 xl.length c1, .bool xm] 33)).heap.size (.agg #[.slice A1 xl.length c1, .bool xm]) xl xm := (hC.more hB.size).next (below_alloc wr _)
      have b1 : (k : Int) ≤ c := by omega
      have b2 : (0 : Int) ≤ k := by omega
      clear hC hxv
      go_wp2_with fail
      generalize hw1 : wr.alloc (.cells #[.slice A1 xl.length c1, .bool xm] 33) = w1 at *
      have hz1 : wr.heap.size < w1.heap.size := by rw [← hw1]; simp
      clear hw1
      obtain ⟨wo, hwo⟩ : ∃ wo : World, wo = wr := ⟨_, rfl⟩
      subst hwo
      go_loopw [23] (fun i wi => ∃ j : Nat, j ≤ k ∧ i = .int .i64 j ∧ Hid (∀ (m : Nat) (y : Ce), m < j → L[m]? = some y → ¬ clash p xl y.1) ∧ Below w1.heap.size w1 wi) (fun i _ => k - (intOf i).toNat)
      case atStart => exact ⟨0, Nat.zero_le _, rfl, (fun m y hm => absurd hm (Nat.not_lt_zero _)), Below.refl _ _⟩
      case round =>
        obtain ⟨j, hj, rfl, HG, hB1⟩ := hrel
        rcases Nat.lt_or_ge j k with hltj | hgej
        · obtain ⟨ad', A2, c2, he2, hab2, d3, d4, hD⟩ := ((h.below (b0.trans (hB1.mono b0.size)))).at (i := j) (List.getElem?_eq_getElem (show j < L.length by omega))
          obtain rfl : ad = ad' := Option.some.inj he2
          have hyv := HV.out _ (List.getElem_mem (show j < L.length by omega))
          have hyw := HWD.out _ (List.getElem_mem (show j < L.length by omega))
          have HLJ : Hid (L[j]? = some (L[j]'(by omega))) := List.getElem?_eq_getElem (by omega)
          generalize (L[j]'(by omega)) = y at *
          obtain ⟨yl, ym⟩ := y
          simp only at d3 d4 hD hyv hyw
          have hs1 := hB1.size
          have k1 := k0.below hB1 k0.lt
          have hwo : Below wr.heap.size wr (wr.alloc (.cells #[.slice A2 yl.length c2, .bool ym] 33)) := below_alloc wr _
          have kb := Bk.new wr 33 #[.slice A2 yl.length c2, .bool ym]
          have ka := k1.alloc (.cells #[.slice A2 yl.length c2, .bool ym] 33)
          have hCa := (hC0.next hB1).next hwo
          have hCb := (hD.more (Nat.le_trans b0.size hs1)).next hwo
          have hB4 := hB1.trans (hwo.mono hs1)
          obtain ⟨x0, x1⟩ := bk2 ka
          obtain ⟨y0, y1⟩ := bk2 kb
          have HYV : Hid (validC yl) := hyv
          clear hD hwo k1 hyv
          go_wp2_with fail
          refine (common_any xl yl xm ym _ _ 0 _ hCa hCb HXV.out HYV.out (by omega)).mono ?_
          rintro e w2 ⟨hb2, v2, rfl, hF⟩
          have hB5 := hB4.trans (hb2.mono hB4.size)
          have ka2 := ka.next' hb2
          have kb2 := kb.next' hb2
          have hCa2 := hCa.next hb2
          have hCb2 := hCb.next hb2
          clear hCa hCb hb2 x0 x1 y0 y1 hB4 ka kb
          have HCL : Hid (clash p xl yl ↔ 0 < sgQ (commonQ xl yl 0) ∨ 0 < sgQ (rndQ xl yl p)) := by
            show _ ↔ _
            rw [sgQ_gt, sgQ_gt]
            unfold clash
            exact or_congr Iff.rfl ⟨fun h => h.2, fun h => ⟨hp, h⟩⟩
          have HBad : Hid (clash p xl yl → z = false) := fun hc => by
            cases hzz : z
            · rfl
            · exact absurd hc ((HZ.out.1 hzz).2 k j (xl, xm) (yl, ym) (by omega) HLK.out HLJ.out hltj)
          have HGood : Hid (¬ clash p xl yl → Hid (∀ (m : Nat) (y : Ce), m < j + 1 → L[m]? = some y → ¬ clash p xl y.1)) := fun hc m y hm hy => by
            rcases Nat.lt_or_ge m j with h5 | h5
            · exact HG.out m y h5 hy
            · have : m = j := by omega
              subst this
              have := HLJ.out
              rw [hy] at this
              injection this with this
              subst this
              exact hc
          have RN := Lib.hid (fun X h1 h2 => round_any xl yl xm ym (.agg #[.slice A1 xl.length c1, .bool xm]) (.agg #[.slice A2 yl.length c2, .bool ym]) p X h1 h2 HXV.out HYV.out hp hp2 hxw hyw)
          generalize commonQ xl yl 0 = qq at *
          generalize rndQ xl yl p = qr at *
          obtain ⟨x0, x1⟩ := bk2 ka2
          obtain ⟨y0, y1⟩ := bk2 kb2
          go_wp2_with fail
          refine (fsign_any qq _ w2 hF).mono ?_
          rintro e w3 ⟨hb3, rfl⟩
          have hB6 := hB5.trans (hb3.mono hB5.size)
          have ka3 := ka2.next' hb3
          have kb3 := kb2.next' hb3
          have hCa3 := hCa2.next hb3
          have hCb3 := hCb2.next hb3
          generalize sgQ qq = sq at *
          clear hF hb3 hB5 ka2 kb2 hCa2 hCb2 x0 x1 y0 y1
          by_cases hpos : 0 < sq
          · have hzf := HBad.out (HCL.out.2 (.inl hpos))
            subst hzf
            clear HBad HGood HCL RN ka3 kb3 hCa3 hCb3
            go_wp2
            go_ret
            exact ⟨b0.trans (hB6.mono b0.size), rfl⟩
          · obtain ⟨x0, x1⟩ := bk2 ka3
            obtain ⟨y0, y1⟩ := bk2 kb3
            go_wp2_with fail
            refine (RN.out w3 hCa3 hCb3).mono ?_
            rintro e w4 ⟨hb4, v4, rfl, hF4⟩
            have hB7 := hB6.trans (hb4.mono hB6.size)
            clear RN hB6 ka3 kb3 hCa3 hCb3 x0 x1 y0 y1 hb4
            go_wp2_with fail
            refine (fsign_any qr _ w4 hF4).mono ?_
            rintro e w5 ⟨hb5, rfl⟩
            have hB8 := hB7.trans (hb5.mono hB7.size)
            generalize sgQ qr = sr at *
            clear hF4 hb5 hB7
            by_cases hpos2 : 0 < sr
            · have hzf := HBad.out (HCL.out.2 (.inr hpos2))
              subst hzf
              clear HBad HGood HCL
              go_wp2
              go_ret
              exact ⟨b0.trans (hB8.mono b0.size), rfl⟩
            · have HN := HGood.out (fun h => by rcases HCL.out.1 h with h | h <;> omega)
              clear HBad HGood HCL
              go_wp2
              go_roundw
              case rel => exact ⟨j + 1, by omega, by go_num, HN, hB8⟩
              case measure => simp [intOf]; omega
        · have hjk : j = k := by omega
          subst hjk
          have HN : Hid (flatPTo p L (j + 1)) := fun i m x y hi hx hy hm => by
            rcases Nat.lt_or_ge i j with h5 | h5
            · exact HF.out i m x y h5 hx hy hm
            · have : i = j := by omega
              subst this
              have := HLK.out
              rw [hx] at this
              injection this with this
              subst this
              exact HG.out m y hm hy
          go_wp2
          go_roundw
          case rel => exact ⟨j + 1, by omega, by go_num, HN, b0.trans (hB1.mono b0.size)⟩
          case measure => simp [intOf]; omega
    · have hkl : k = L.length := by omega
      subst hkl
      have hzt : z = true := HZ.out.2 ⟨by omega, HF.out⟩
      subst hzt
      go_wp2
      go_ret
      exact ⟨hB, rfl⟩

end Go.Proofs.YtaihplgfbepgpaaGreatDoor

namespace Go.Proofs.YtaihplgfbepgpaaGreatDoor
open Go.RowKit Ar

theorem Tryz.weight_info : (Tryz.prog.info? 47).map (fun i => (i.zero, i.size, i.bytes)) = some (some (.agg #[.int .i64 0, .int .i64 0, .string ⟨#[]⟩]), 3, 32) := by kernel_rfl
/-- A weight: a source cell, a target cell, what they have in common. -/
abbrev We := Nat × Nat × Rat
def wcell (x : We) : List Value := [.int .i64 (x.1 : Int), .int .i64 (x.2.1 : Int), .string ⟨(ratText x.2.2).toArray⟩]
def wrow (l : List We) : List Value := l.flatMap wcell
theorem wrow_len (l : List We) : (wrow l).length = l.length * 3 := by
  induction l with
  | nil => rfl
  | cons q l ih => show (wcell q ++ wrow l).length = _; simp [ih, wcell]; omega
theorem wrow_app (l m : List We) : wrow (l ++ m) = wrow l ++ wrow m := List.flatMap_append
theorem wrow_one (l : List We) : ∀ u ∈ wrow l, u.oneCell' = true := fun u hu => by
  obtain ⟨p, hp, hu⟩ := List.mem_flatMap.1 hu
  simp [wcell] at hu
  rcases hu with rfl | rfl | rfl <;> rfl
def lst (L : List Ce) (i : Nat) : List Pl := (L.getD i ([], false)).1
theorem lst_at {L : List Ce} {i : Nat} {x : List Pl} {m : Bool} (h : L[i]? = some (x, m)) : lst L i = x := by
  unfold lst
  rw [List.getD_eq_getElem?_getD, h]
  rfl
/-- One weight, if there is one. -/
def wNew (q : Rat) (i j : Nat) : List We := if 0 < q then [(i, j, q)] else []
/-- The weights of a target cell, from the first n source cells. -/
def wOne (F : List Ce) (tl : List Pl) (p : Int) (j : Nat) : Nat → List We
  | 0 => []
  | n + 1 => wOne F tl p j n ++ wNew (rndQ (lst F n) tl p) n j
/-- The weights of the first n target cells. -/
def wAll (F T : List Ce) (p : Int) : Nat → List We
  | 0 => []
  | n + 1 => wAll F T p n ++ wOne F (lst T n) p n F.length
theorem wNew_len (q : Rat) (i j : Nat) : (wNew q i j).length ≤ 1 := by unfold wNew; split <;> simp
theorem wOne_len (F : List Ce) (tl : List Pl) (p : Int) (j : Nat) : ∀ n, (wOne F tl p j n).length ≤ n
  | 0 => Nat.le_refl _
  | n + 1 => by
    show (wOne F tl p j n ++ wNew _ _ _).length ≤ _
    rw [List.length_append]
    have := wOne_len F tl p j n
    have := wNew_len (rndQ (lst F n) tl p) n j
    omega
theorem wAll_len (F T : List Ce) (p : Int) : ∀ n, (wAll F T p n).length ≤ n * F.length
  | 0 => by simp [wAll]
  | n + 1 => by
    show (wAll F T p n ++ wOne _ _ _ _ _).length ≤ _
    rw [List.length_append, Nat.add_mul]
    have := wAll_len F T p n
    have := wOne_len F (lst T n) p n F.length
    omega
theorem commonQ_nonneg {la lb : List Pl} (ka : validC la) (kb : validC lb) (dx : Int) : 0 ≤ commonQ la lb dx := by
  rw [commonQ_geo]
  split
  · exact Rat.le_refl
  · have h := Geo.ar_nonneg (poly_tc ka 0) (by rw [List.length_map, poly_len]; exact ka.1) (es := Geo.cyc ((poly lb dx).map toP)) (Geo.proper_cyc (poly_tc kb dx) (by rw [List.length_map, poly_len]; exact kb.1))
    unfold Geo.ar at h
    rw [Geo.fanArea_eq]
    grind
theorem rndQ_nonneg {la lb : List Pl} (ka : validC la) (kb : validC lb) (p : Int) : 0 ≤ rndQ la lb p := by
  unfold rndQ
  split
  · exact commonQ_nonneg ka kb 0
  · exact Geo.sumI_nonneg (fun k => commonQ_nonneg ka kb _) _
theorem rndQ_ne {la lb : List Pl} (ka : validC la) (kb : validC lb) (p : Int) : sgQ (rndQ la lb p) ≠ 0 ↔ 0 < rndQ la lb p := by
  have h := rndQ_nonneg ka kb p
  rw [Ne, sgQ_zero_iff]
  constructor
  · intro h1; grind
  · intro h1 h2; grind
theorem clash_rnd {p : Int} {la lb : List Pl} (hp : 0 ≤ p) (h0 : ¬ 0 < commonQ la lb 0) : clash p la lb ↔ 0 < rndQ la lb p := by
  unfold clash
  by_cases h : p = 0
  · subst h
    have e : rndQ la lb 0 = commonQ la lb 0 := by unfold rndQ; rw [if_pos rfl]
    rw [e]
    constructor
    · rintro (h | h)
      · exact h
      · omega
    · exact fun h => .inl h
  · constructor
    · rintro (h1 | h1)
      · exact absurd h1 h0
      · exact h1.2
    · exact fun h1 => .inr ⟨by omega, h1⟩
theorem flatP_flatG {p : Int} {L : List Ce} (h : flatP p L) : flatG L := flatTo_all.2 fun i k x y h1 h2 h3 h4 h5 => h i k x y h1 h2 h3 h4 (.inl h5)

set_option maxRecDepth 100000 in
set_option maxHeartbeats 1600000 in
theorem wrong80_any (L : List Ce) (v : Value) (p : Int) (w : World) (h : IsCs w w.heap.size v L) (hL : L.length ≤ 1000000) (bad : Bool) (hbad : bad = true ↔ ∃ x ∈ L, ¬ validC x.1) :
    Calls Tryz.prog 39 #[v, .int .i64 p, .int .i64 80] w fun e w' => Below w.heap.size w w' ∧ e = .returned (.int .i64 (if bad then 80 else 0)) := by
  obtain ⟨A, c, rfl⟩ := h.form
  have hcap := h.cap
  have HBD := Lib.hid hbad
  have HR1 : Hid (bad = true → (if bad then (80 : Int) else 0) = 80) := fun h => by rw [h]; rfl
  have HR2 : Hid (bad = false → (if bad then (80 : Int) else 0) = 0) := fun h => by rw [h]; rfl
  generalize (if bad then (80 : Int) else 0) = er at *
  clear hbad
  go_enter Tryz.func39, Tryz.ntmps39
  go_wp2_with fail
  go_loopw [7] (fun i wr => ∃ k : Nat, k ≤ L.length ∧ i = .int .i64 k ∧ Hid (∀ (m : Nat) (y : Ce), m < k → L[m]? = some y → ¬ (¬ validC y.1)) ∧ Below w.heap.size w wr) (fun i _ => L.length - (intOf i).toNat)
  case atStart => exact ⟨0, Nat.zero_le _, rfl, (fun m y hm => absurd hm (Nat.not_lt_zero _)), Below.refl _ _⟩
  case round =>
    obtain ⟨k, hk, rfl, HF, hB⟩ := hrel
    rcases Nat.lt_or_ge k L.length with hlt | hge
    · obtain ⟨ad, A1, c1, rfl, hab, d1, d2, hC⟩ := (h.below hB).at (i := k) (List.getElem?_eq_getElem hlt)
      have HLK : Hid (L[k]? = some L[k]) := List.getElem?_eq_getElem hlt
      have hmem := List.getElem_mem hlt
      generalize L[k] = x at *
      obtain ⟨xl, xm⟩ := x
      simp only at d1 d2 hC
      obtain ⟨q, hq⟩ := bool_of (validC xl)
      have V := rvalid_any xl xm _ wr (hC.more hB.size) q hq
      have b1 : (k : Int) < L.length := by omega
      have b2 : (0 : Int) ≤ k := by omega
      have HQ := Lib.hid hq
      clear hC hq
      go_wp2_with fail
      refine V.mono ?_
      rintro e w1 ⟨hb1, rfl⟩
      have hB1 := hB.trans (hb1.mono hB.size)
      clear V d1 d2 hB hb1
      cases q with
      | false =>
        have hbt : bad = true := HBD.out.2 ⟨_, hmem, fun h0 => by have := HQ.out.2 h0; cases this⟩
        have e2 := HR1.out hbt
        subst e2
        clear hmem
        go_wp2
        go_ret
        exact ⟨hB1, rfl⟩
      | true =>
        have HN : Hid (∀ (m : Nat) (y : Ce), m < k + 1 → L[m]? = some y → ¬ (¬ validC y.1)) := fun m y hm hy => by
          rcases Nat.lt_or_ge m k with h5 | h5
          · exact HF.out m y h5 hy
          · have : m = k := by omega
            subst this
            have := HLK.out
            rw [hy] at this
            injection this with this
            subst this
            exact fun h0 => h0 (HQ.out.1 rfl)
        clear hmem
        go_wp2
        go_roundw
        case rel => exact ⟨k + 1, by omega, by go_num, HN, hB1⟩
        case measure => simp [intOf]; omega
    · have hkl : k = L.length := by omega
      subst hkl
      have hbf : bad = false := by
        cases hbb : bad
        · rfl
        · obtain ⟨x, hx, h0⟩ := HBD.out.1 hbb
          obtain ⟨m, hm⟩ := List.getElem?_of_mem hx
          exact absurd h0 (HF.out m x (List.getElem?_eq_some_iff.1 hm).1 hm)
      have e2 := HR2.out hbf
      subst e2
      go_wp2
      go_ret
      exact ⟨hB, rfl⟩

set_option maxRecDepth 100000 in
set_option maxHeartbeats 1600000 in
theorem wrong2_any (L : List Ce) (v : Value) (p : Int) (w : World) (h : IsCs w w.heap.size v L) (hL : L.length ≤ 1000000) (hval : ∀ x ∈ L, validC x.1) (bad : Bool) (hbad : bad = true ↔ ∃ x ∈ L, 0 < p ∧ p < wid x.1) :
    Calls Tryz.prog 39 #[v, .int .i64 p, .int .i64 2] w fun e w' => Below w.heap.size w w' ∧ e = .returned (.int .i64 (if bad then 2 else 0)) := by
  obtain ⟨A, c, rfl⟩ := h.form
  have hcap := h.cap
  have HBD := Lib.hid hbad
  have HR1 : Hid (bad = true → (if bad then (2 : Int) else 0) = 2) := fun h => by rw [h]; rfl
  have HR2 : Hid (bad = false → (if bad then (2 : Int) else 0) = 0) := fun h => by rw [h]; rfl
  generalize (if bad then (2 : Int) else 0) = er at *
  clear hbad
  have HV := Lib.hid hval
  clear hval
  go_enter Tryz.func39, Tryz.ntmps39
  go_wp2_with fail
  go_loopw [7] (fun i wr => ∃ k : Nat, k ≤ L.length ∧ i = .int .i64 k ∧ Hid (∀ (m : Nat) (y : Ce), m < k → L[m]? = some y → ¬ (0 < p ∧ p < wid y.1)) ∧ Below w.heap.size w wr) (fun i _ => L.length - (intOf i).toNat)
  case atStart => exact ⟨0, Nat.zero_le _, rfl, (fun m y hm => absurd hm (Nat.not_lt_zero _)), Below.refl _ _⟩
  case round =>
    obtain ⟨k, hk, rfl, HF, hB⟩ := hrel
    rcases Nat.lt_or_ge k L.length with hlt | hge
    · obtain ⟨ad, A1, c1, rfl, hab, d1, d2, hC⟩ := (h.below hB).at (i := k) (List.getElem?_eq_getElem hlt)
      have HLK : Hid (L[k]? = some L[k]) := List.getElem?_eq_getElem hlt
      have hmem := List.getElem_mem hlt
      have hxv := HV.out _ hmem
      generalize L[k] = x at *
      obtain ⟨xl, xm⟩ := x
      simp only at d1 d2 hC hxv
      obtain ⟨q, hq⟩ := bool_of (0 < p ∧ p < wid xl)
      have V := wide_any xl xm _ p wr (hC.more hB.size) hxv q hq
      have b1 : (k : Int) < L.length := by omega
      have b2 : (0 : Int) ≤ k := by omega
      have HQ := Lib.hid hq
      clear hC hq hxv
      go_wp2_with fail
      refine V.mono ?_
      rintro e w1 ⟨hb1, rfl⟩
      have hB1 := hB.trans (hb1.mono hB.size)
      clear V d1 d2 hB hb1
      cases q with
      | true =>
        have hbt : bad = true := HBD.out.2 ⟨_, hmem, HQ.out.1 rfl⟩
        have e2 := HR1.out hbt
        subst e2
        clear hmem
        go_wp2
        go_ret
        exact ⟨hB1, rfl⟩
      | false =>
        have HN : Hid (∀ (m : Nat) (y : Ce), m < k + 1 → L[m]? = some y → ¬ (0 < p ∧ p < wid y.1)) := fun m y hm hy => by
          rcases Nat.lt_or_ge m k with h5 | h5
          · exact HF.out m y h5 hy
          · have : m = k := by omega
            subst this
            have := HLK.out
            rw [hy] at this
            injection this with this
            subst this
            exact fun h0 => by have := HQ.out.2 h0; cases this
        clear hmem
        go_wp2
        go_roundw
        case rel => exact ⟨k + 1, by omega, by go_num, HN, hB1⟩
        case measure => simp [intOf]; omega
    · have hkl : k = L.length := by omega
      subst hkl
      have hbf : bad = false := by
        cases hbb : bad
        · rfl
        · obtain ⟨x, hx, h0⟩ := HBD.out.1 hbb
          obtain ⟨m, hm⟩ := List.getElem?_of_mem hx
          exact absurd h0 (HF.out m x (List.getElem?_eq_some_iff.1 hm).1 hm)
      have e2 := HR2.out hbf
      subst e2
      go_wp2
      go_ret
      exact ⟨hB, rfl⟩

set_option maxRecDepth 100000 in
set_option maxHeartbeats 3200000 in
theorem wrong81_any (L : List Ce) (v : Value) (p : Int) (w : World) (h : IsCs w w.heap.size v L) (hval : ∀ x ∈ L, validC x.1) (hL : L.length ≤ 64) (hp : 0 ≤ p) (hp2 : p ≤ 1048576) (hwid : ∀ x ∈ L, p = 0 ∨ wid x.1 ≤ p) (z : Bool) (hz : z = true ↔ flatP p L) :
    Calls Tryz.prog 39 #[v, .int .i64 p, .int .i64 81] w fun e w' => Below w.heap.size w w' ∧ e = .returned (.int .i64 (if z then 0 else 81)) := by
  obtain ⟨z0, hz0⟩ := bool_of (flatG L)
  have VG := Lib.hid (fun X (hX : Below w.heap.size w X) => RValidGrid_any L v X ((h.below hX).more hX.size) hL false z0 ⟨fun h => (by cases h), fun ⟨x, hx, h0⟩ => absurd (hval x hx) h0⟩ (fun _ => hz0))
  obtain ⟨A, c, rfl⟩ := h.form
  have hcap := h.cap
  have HZ := Lib.hid hz
  have HZ0 := Lib.hid hz0
  have HV := Lib.hid hval
  have HWD := Lib.hid hwid
  have HR1 : Hid (z = true → (if z then (0 : Int) else 81) = 0) := fun h => by rw [h]; rfl
  have HR2 : Hid (z = false → (if z then (0 : Int) else 81) = 81) := fun h => by rw [h]; rfl
  generalize (if z then (0 : Int) else 81) = er at *
  simp only [Bool.not_false, Bool.true_and] at VG
  clear hz hz0 hval hwid
  go_enter Tryz.func39, Tryz.ntmps39
  go_wp2_with fail
  go_loopw [7] (fun i wr => ∃ k : Nat, k ≤ L.length ∧ i = .int .i64 k ∧ Below w.heap.size w wr) (fun i _ => L.length - (intOf i).toNat)
  case atStart => exact ⟨0, Nat.zero_le _, rfl, Below.refl _ _⟩
  case round =>
  obtain ⟨k0, hk0, rfl, hB⟩ := hrel
  rcases Nat.lt_or_ge k0 L.length with hlt0 | hge0
  · go_wp2
    go_roundw
    case rel => exact ⟨k0 + 1, by omega, by go_num, hB⟩
    case measure => simp [intOf]; omega
  obtain rfl : k0 = L.length := by omega
  go_wp2_with fail
  refine (VG.out wr hB).mono ?_
  rintro e w0 ⟨hb0, rfl⟩
  have hB0 := hB.trans (hb0.mono hB.size)
  clear VG hB hb0 hge0 hk0
  cases z0 with
  | false =>
    have e1 : z = false := by
      cases hzz : z
      · rfl
      · have := HZ0.out.2 (flatP_flatG (HZ.out.1 hzz)); cases this
    have e2 := HR2.out e1
    subst e2
    go_wp2
    go_ret
    exact ⟨hB0, rfl⟩
  | true =>
  have HFG := Lib.hid (HZ0.out.1 rfl)
  clear HZ0
  go_wp2_with fail
  go_loopw [8] (fun i wr => ∃ k : Nat, k ≤ L.length ∧ i = .int .i64 k ∧ Hid (flatPTo p L k) ∧ Below w.heap.size w wr) (fun i _ => L.length - (intOf i).toNat)
  case atStart => exact ⟨0, Nat.zero_le _, rfl, (fun i k x y hi => absurd hi (Nat.not_lt_zero _)), hB0⟩
  case round =>
    obtain ⟨k, hk, rfl, HF, hB⟩ := hrel
    rcases Nat.lt_or_ge k L.length with hlt | hge
    · obtain ⟨ad, A1, c1, rfl, hab, d1, d2, hC⟩ := h.at (i := k) (List.getElem?_eq_getElem hlt)
      have hxv := HV.out _ (List.getElem_mem hlt)
      have hxw := HWD.out _ (List.getElem_mem hlt)
      have HLK : Hid (L[k]? = some L[k]) := List.getElem?_eq_getElem hlt
      generalize L[k] = x at *
      obtain ⟨xl, xm⟩ := x
      simp only at d1 d2 hC hxv hxw
      have HXV : Hid (validC xl) := hxv
      have b1 : (k : Int) < L.length := by omega
      have b2 : (0 : Int) ≤ k := by omega
      clear hxv
      go_wp2_with fail
      go_loopw [9] (fun i wi => ∃ j : Nat, j ≤ k ∧ i = .int .i64 j ∧ Hid (∀ (m : Nat) (y : Ce), m < j → L[m]? = some y → ¬ clash p xl y.1) ∧ Below w.heap.size w wi) (fun i _ => k - (intOf i).toNat)
      case atStart => exact ⟨0, Nat.zero_le _, rfl, (fun m y hm => absurd hm (Nat.not_lt_zero _)), hB⟩
      case round =>
        clear hB
        obtain ⟨j, hj, rfl, HG, hB⟩ := hrel
        rcases Nat.lt_or_ge j k with hltj | hgej
        · obtain ⟨ad', A2, c2, he2, hab2, d3, d4, hD⟩ := h.at (i := j) (List.getElem?_eq_getElem (show j < L.length by omega))
          obtain rfl : ad = ad' := Option.some.inj he2
          have hyv := HV.out _ (List.getElem_mem (show j < L.length by omega))
          have hyw := HWD.out _ (List.getElem_mem (show j < L.length by omega))
          have HLJ : Hid (L[j]? = some (L[j]'(by omega))) := List.getElem?_eq_getElem (by omega)
          generalize (L[j]'(by omega)) = y at *
          obtain ⟨yl, ym⟩ := y
          simp only at d3 d4 hD hyv hyw
          have b3 : (j : Int) < L.length := by omega
          have b4 : (0 : Int) ≤ j := by omega
          have hs := hB.size
          have h00 := HFG.out k j (xl, xm) (yl, ym) HLK.out HLJ.out hltj
          have HS := Lib.hid (show sgQ (rrndQ xl yl p) ≠ 0 ↔ clash p xl yl by rw [clash_rnd hp h00, rndQ_ref HXV.out hyv hp hxw hyw]; exact rndQ_ne HXV.out hyv p)
          have hsz : sz (rrndQ xl yl p) ≤ 6000000000 := by rw [rndQ_ref HXV.out hyv hp hxw hyw]; exact rndQ_sz HXV.out hyv ⟨⟨hp, hp2⟩, fun x hx => by simp at hx; rcases hx with rfl | rfl <;> assumption⟩
          have CM := Lib.hid (fun X (h : Below w.heap.size w X) => rround_any xl yl xm ym _ _ p X ((hC.below h).more h.size) ((hD.below h).more h.size) HXV.out hyv hp hp2)
          have KK : Hid (∀ X, Below w.heap.size w X → ((X.cell? (ad.add (k * 2)) = some (.slice A1 xl.length c1) ∧ X.cell? ⟨(ad.add (k * 2)).block, (ad.add (k * 2)).off + 1, none⟩ = some (.bool xm)) ∧ (X.cell? (ad.add (j * 2)) = some (.slice A2 yl.length c2) ∧ X.cell? ⟨(ad.add (j * 2)).block, (ad.add (j * 2)).off + 1, none⟩ = some (.bool ym)))) := fun X h => ⟨⟨(h.cell (by rw [addr_block]; exact hab)).trans d1, (h.cell (p := ⟨(ad.add (k * 2)).block, (ad.add (k * 2)).off + 1, none⟩) (by show (ad.add (k * 2)).block < _; rw [addr_block]; exact hab)).trans d2⟩, ⟨(h.cell (by rw [addr_block]; exact hab)).trans d3, (h.cell (p := ⟨(ad.add (j * 2)).block, (ad.add (j * 2)).off + 1, none⟩) (by show (ad.add (j * 2)).block < _; rw [addr_block]; exact hab)).trans d4⟩⟩
          obtain ⟨⟨x0, x1⟩, y0, y1⟩ := KK.out wr hB
          generalize rrndQ xl yl p = rq at *
          clear hyv hD
          go_wp2_with fail
          go_region_held3 (fun X => (X.cell? (ad.add (k * 2)) = some (.slice A1 xl.length c1) ∧ X.cell? ⟨(ad.add (k * 2)).block, (ad.add (k * 2)).off + 1, none⟩ = some (.bool xm)) ∧ (X.cell? (ad.add (j * 2)) = some (.slice A2 yl.length c2) ∧ X.cell? ⟨(ad.add (j * 2)).block, (ad.add (j * 2)).off + 1, none⟩ = some (.bool ym)))
            (first | exact KK.out _ hB.drew | exact KK.out _ hB1 | exact KK.out _ hB2)
            (first
              | (go_at_call 35; (with_reducible refine (CM.out _ hB.drew).mono ?_); rintro e w1 ⟨hb1, v1, rfl, z1⟩; have hB1 := hB.drew.trans (hb1.mono hs))
              | (go_at_call 40; (with_reducible refine (qsgn_any rq _ _ z1 (by omega)).mono ?_); rintro e w2 ⟨hb2, rfl⟩; have hB2 := hB1.trans (hb2.mono hB1.size)))
          clear KK CM x0 x1 y0 y1 z1 hb1 hb2 hB1
          by_cases hpos : sgQ rq = 0
          · have HN : Hid (∀ (m : Nat) (y : Ce), m < j + 1 → L[m]? = some y → ¬ clash p xl y.1) := fun m y hm hy => by
              rcases Nat.lt_or_ge m j with h5 | h5
              · exact HG.out m y h5 hy
              · have : m = j := by omega
                subst this
                have := HLJ.out
                rw [hy] at this
                injection this with this
                subst this
                exact fun h => (HS.out.2 h) hpos
            rw [hpos]
            clear hpos HS
            go_wp2
            go_roundw
            case rel => exact ⟨j + 1, by omega, by go_num, HN, hB2⟩
            case measure => simp [intOf]; omega
          · have hzf : z = false := by
              cases hzz : z
              · rfl
              · have h9 := (HZ.out.1 hzz) k j (xl, xm) (yl, ym) (by omega) HLK.out HLJ.out hltj
                exact absurd (HS.out.1 hpos) h9
            have e2 := HR2.out hzf
            have hne : (sgQ rq != 0) = true := by simpa using hpos
            subst e2
            clear hpos HS
            generalize sgQ rq = sq at *
            go_wp2
            go_ret
            exact ⟨hB2, rfl⟩
        · have hjk : j = k := by omega
          subst hjk
          have HN : Hid (flatPTo p L (j + 1)) := fun i m x y hi hx hy hm => by
            rcases Nat.lt_or_ge i j with h5 | h5
            · exact HF.out i m x y h5 hx hy hm
            · have : i = j := by omega
              subst this
              have := HLK.out
              rw [hx] at this
              injection this with this
              subst this
              exact HG.out m y hm hy
          go_wp2
          go_roundw
          case rel => exact ⟨j + 1, by omega, by go_num, HN, hB⟩
          case measure => simp [intOf]; omega
    · have hkl : k = L.length := by omega
      subst hkl
      have e2 := HR1.out (HZ.out.2 HF.out)
      subst e2
      go_wp2
      go_ret
      exact ⟨hB, rfl⟩

/-- The error of weights between two grids. -/
def wErr (bF bT ip xF xT gF gT : Bool) : Nat := if bF || bT then 80 else if !ip || xF || xT then 2 else if !gF || !gT then 81 else 0
/-- The weights, if there is no error. -/
def wList (F T : List Ce) (p : Int) (E : Nat) : List We := if E = 0 then wAll F T p T.length else []
theorem wList_err {F T : List Ce} {p : Int} {E : Nat} (h : E ≠ 0) : wList F T p E = [] := by unfold wList; rw [if_neg h]

set_option maxRecDepth 100000 in
set_option maxHeartbeats 6400000 in
theorem RWeights_any (F T : List Ce) (vF vT : Value) (p : Int) (w : World) (hF : IsCs w w.heap.size vF F) (hT : IsCs w w.heap.size vT T) (lF : F.length ≤ 64) (lT : T.length ≤ 64) (bF bT ip xF xT gF gT : Bool) (hbF : bF = true ↔ ∃ x ∈ F, ¬ validC x.1) (hbT : bT = true ↔ ∃ x ∈ T, ¬ validC x.1) (hip : ip = true ↔ 0 ≤ p ∧ p ≤ 1048576) (hxF : xF = true ↔ ∃ x ∈ F, 0 < p ∧ p < wid x.1) (hxT : xT = true ↔ ∃ x ∈ T, 0 < p ∧ p < wid x.1) (hgF : gF = true ↔ flatP p F) (hgT : gT = true ↔ flatP p T) :
    Calls Tryz.prog 18 #[vF, vT, .int .i64 p] w fun e w' => Below w.heap.size w w' ∧ ∃ A c, e = .returned (.tuple #[.slice A (wList F T p (wErr bF bT ip xF xT gF gT)).length c, .int .i64 ((wErr bF bT ip xF xT gF gT) : Int)]) ∧ Rd w' w'.heap.size A (wrow (wList F T p (wErr bF bT ip xF xT gF gT))) := by
  have P1 := Lib.hid (fun X (h : Below w.heap.size w X) => wrong80_any F vF p X ((hF.below h).more h.size) (by omega) bF hbF)
  have P2 := Lib.hid (fun X (h : Below w.heap.size w X) => wrong80_any T vT p X ((hT.below h).more h.size) (by omega) bT hbT)
  have P3 := Lib.hid (fun X => isPeriod_any p X ip hip)
  have P4 := Lib.hid (fun (hv : ∀ x ∈ F, validC x.1) X (h : Below w.heap.size w X) => wrong2_any F vF p X ((hF.below h).more h.size) (by omega) hv xF hxF)
  have P5 := Lib.hid (fun (hv : ∀ x ∈ T, validC x.1) X (h : Below w.heap.size w X) => wrong2_any T vT p X ((hT.below h).more h.size) (by omega) hv xT hxT)
  have P6 := Lib.hid (fun (hv : ∀ x ∈ F, validC x.1) h1 h2 h3 X (h : Below w.heap.size w X) => wrong81_any F vF p X ((hF.below h).more h.size) hv lF h1 h2 h3 gF hgF)
  have P7 := Lib.hid (fun (hv : ∀ x ∈ T, validC x.1) h1 h2 h3 X (h : Below w.heap.size w X) => wrong81_any T vT p X ((hT.below h).more h.size) hv lT h1 h2 h3 gT hgT)
  obtain ⟨A, cF, rfl⟩ := hF.form
  obtain ⟨A', cT, rfl⟩ := hT.form
  have hcF := hF.cap
  have hcT := hT.cap
  have HVF : Hid (bF = false → ∀ x ∈ F, validC x.1) := fun h x hx => Classical.byContradiction fun h0 => by rw [hbF.2 ⟨x, hx, h0⟩] at h; cases h
  have HVT : Hid (bT = false → ∀ x ∈ T, validC x.1) := fun h x hx => Classical.byContradiction fun h0 => by rw [hbT.2 ⟨x, hx, h0⟩] at h; cases h
  have HWF : Hid (xF = false → 0 ≤ p → ∀ x ∈ F, p = 0 ∨ wid x.1 ≤ p) := fun h hp x hx => Classical.byContradiction fun h0 => by rw [hxF.2 ⟨x, hx, by omega⟩] at h; cases h
  have HWT : Hid (xT = false → 0 ≤ p → ∀ x ∈ T, p = 0 ∨ wid x.1 ≤ p) := fun h hp x hx => Classical.byContradiction fun h0 => by rw [hxT.2 ⟨x, hx, by omega⟩] at h; cases h
  have HIP := Lib.hid hip
  clear hbF hbT hip hxF hxT hgF hgT
  obtain ⟨iw, hiw, hz0, hz1, hz2⟩ := info_parts Tryz.weight_info
  obtain ⟨E, hE⟩ : ∃ E, E = wErr bF bT ip xF xT gF gT := ⟨_, rfl⟩
  rw [← hE]
  obtain ⟨l, hl⟩ : ∃ l, l = wList F T p E := ⟨_, rfl⟩
  rw [← hl]
  have HL := Lib.hid hl
  have HE := Lib.hid hE
  clear hE hl
  go_enter Tryz.func18, Tryz.ntmps18
  go_wp2_with fail
  have hbA := below_alloc w (.cells #[.int .i64 80, .int .i64 2, .int .i64 81] 26)
  have kw := Bk.new w 26 #[.int .i64 80, .int .i64 2, .int .i64 81]
  obtain ⟨bw, hbw⟩ : ∃ b, b = w.heap.size := ⟨_, rfl⟩
  rw [← hbw] at kw ⊢
  clear hbw
  generalize (w.alloc (.cells #[.int .i64 80, .int .i64 2, .int .i64 81] 26)) = w0 at *
  go_loopw [16] (fun i wr => ∃ k : Nat, ((k = 0 ∧ i = .int .i64 0) ∨ (k = 1 ∧ i = .int .i64 1) ∨ (k = 2 ∧ i = .int .i64 2) ∨ (k = 3 ∧ i = .int .i64 3)) ∧ (1 ≤ k → bF = false ∧ bT = false) ∧ (2 ≤ k → ip = true ∧ xF = false ∧ xT = false) ∧ (3 ≤ k → gF = true ∧ gT = true) ∧ Below w0.heap.size w0 wr) (fun i _ => 3 - (intOf i).toNat)
  case atStart => exact ⟨0, .inl ⟨rfl, rfl⟩, (fun h => by omega), (fun h => by omega), (fun h => by omega), Below.refl _ _⟩
  case round =>
  obtain ⟨k, hk, h1, h2, h3, hB0⟩ := hrel
  have hB := hbA.trans (hB0.mono hbA.size)
  obtain ⟨g0, g1, g2⟩ := bk3 (kw.next' hB0)
  rcases hk with ⟨rfl, rfl⟩ | ⟨rfl, rfl⟩ | ⟨rfl, rfl⟩ | ⟨rfl, rfl⟩
  · clear h1 h2 h3
    go_wp2_with fail
    refine (P1.out _ hB).mono ?_
    rintro e w1 ⟨hb1, rfl⟩
    have hB1 := hB.trans (hb1.mono hB.size)
    have hB01 := hB0.trans (hb1.mono hB0.size)
    clear hb1 g0 g1 g2
    cases bF with
    | true =>
      have e2 : E = 80 := by rw [HE.out]; rfl
      have e3 : l = [] := by rw [HL.out, e2]; exact wList_err (by decide)
      clear HL HE
      subst e2
      subst e3
      go_wp2
      go_ret2
      exact ⟨hB1, none, 0, rfl, fun h0 => absurd rfl h0⟩
    | false =>
      go_wp2_with fail
      refine (P2.out _ hB1).mono ?_
      rintro e w2 ⟨hb2, rfl⟩
      have hB2 := hB1.trans (hb2.mono hB1.size)
      have hB02 := hB01.trans (hb2.mono hB01.size)
      clear hb2
      cases bT with
      | true =>
        have e2 : E = 80 := by rw [HE.out]; rfl
        have e3 : l = [] := by rw [HL.out, e2]; exact wList_err (by decide)
        clear HL HE
        subst e2
        subst e3
        go_wp2
        go_ret2
        exact ⟨hB2, none, 0, rfl, fun h0 => absurd rfl h0⟩
      | false =>
        go_wp2
        go_roundw
        case rel => exact ⟨1, .inr (.inl ⟨rfl, rfl⟩), by simp, (fun h => by omega), (fun h => by omega), hB02⟩
        case measure => simp [intOf]
  · obtain ⟨rfl, rfl⟩ := h1 (by omega)
    clear h1 h2 h3
    have VF := HVF.out rfl
    have VT := HVT.out rfl
    have P4 := Lib.hid (P4.out VF)
    have P5 := Lib.hid (P5.out VT)
    clear VF VT
    go_wp2_with fail
    refine (P3.out _).mono ?_
    rintro e w9 ⟨hb9, rfl⟩
    have hB := hB.trans (hb9.mono hB.size)
    have hB0 := hB0.trans (hb9.mono hB0.size)
    clear hb9
    cases ip with
    | false =>
      have e2 : E = 2 := by rw [HE.out]; rfl
      have e3 : l = [] := by rw [HL.out, e2]; exact wList_err (by decide)
      clear HL HE
      subst e2
      subst e3
      go_wp2
      go_ret2
      exact ⟨hB, none, 0, rfl, fun h0 => absurd rfl h0⟩
    | true =>
      go_wp2_with fail
      refine (P4.out _ hB).mono ?_
      rintro e w1 ⟨hb1, rfl⟩
      have hB1 := hB.trans (hb1.mono hB.size)
      have hB01 := hB0.trans (hb1.mono hB0.size)
      clear hb1 g0 g1 g2
      cases xF with
      | true =>
        have e2 : E = 2 := by rw [HE.out]; rfl
        have e3 : l = [] := by rw [HL.out, e2]; exact wList_err (by decide)
        clear HL HE
        subst e2
        subst e3
        go_wp2
        go_ret2
        exact ⟨hB1, none, 0, rfl, fun h0 => absurd rfl h0⟩
      | false =>
        go_wp2_with fail
        refine (P5.out _ hB1).mono ?_
        rintro e w2 ⟨hb2, rfl⟩
        have hB2 := hB1.trans (hb2.mono hB1.size)
        have hB02 := hB01.trans (hb2.mono hB01.size)
        clear hb2
        cases xT with
        | true =>
          have e2 : E = 2 := by rw [HE.out]; rfl
          have e3 : l = [] := by rw [HL.out, e2]; exact wList_err (by decide)
          clear HL HE
          subst e2
          subst e3
          go_wp2
          go_ret2
          exact ⟨hB2, none, 0, rfl, fun h0 => absurd rfl h0⟩
        | false =>
          go_wp2
          go_roundw
          case rel => exact ⟨2, .inr (.inr (.inl ⟨rfl, rfl⟩)), by simp, by simp, (fun h => by omega), hB02⟩
          case measure => simp [intOf]
  · obtain ⟨rfl, rfl⟩ := h1 (by omega)
    obtain ⟨rfl, rfl, rfl⟩ := h2 (by omega)
    clear h1 h2 h3
    have hip := HIP.out.1 rfl
    have P6 := Lib.hid (P6.out (HVF.out rfl) hip.1 hip.2 (HWF.out rfl hip.1))
    have P7 := Lib.hid (P7.out (HVT.out rfl) hip.1 hip.2 (HWT.out rfl hip.1))
    clear hip
    go_wp2_with fail
    refine (P6.out _ hB).mono ?_
    rintro e w1 ⟨hb1, rfl⟩
    have hB1 := hB.trans (hb1.mono hB.size)
    have hB01 := hB0.trans (hb1.mono hB0.size)
    clear hb1 g0 g1 g2
    cases gF with
    | false =>
      have e2 : E = 81 := by rw [HE.out]; rfl
      have e3 : l = [] := by rw [HL.out, e2]; exact wList_err (by decide)
      clear HL HE
      subst e2
      subst e3
      go_wp2
      go_ret2
      exact ⟨hB1, none, 0, rfl, fun h0 => absurd rfl h0⟩
    | true =>
      go_wp2_with fail
      refine (P7.out _ hB1).mono ?_
      rintro e w2 ⟨hb2, rfl⟩
      have hB2 := hB1.trans (hb2.mono hB1.size)
      have hB02 := hB01.trans (hb2.mono hB01.size)
      clear hb2
      cases gT with
      | false =>
        have e2 : E = 81 := by rw [HE.out]; rfl
        have e3 : l = [] := by rw [HL.out, e2]; exact wList_err (by decide)
        clear HL HE
        subst e2
        subst e3
        go_wp2
        go_ret2
        exact ⟨hB2, none, 0, rfl, fun h0 => absurd rfl h0⟩
      | true =>
        go_wp2
        go_roundw
        case rel => exact ⟨3, .inr (.inr (.inr ⟨rfl, rfl⟩)), by simp, by simp, by simp, hB02⟩
        case measure => simp [intOf]
  · obtain ⟨rfl, rfl⟩ := h1 (by omega)
    obtain ⟨rfl, rfl, rfl⟩ := h2 (by omega)
    obtain ⟨rfl, rfl⟩ := h3 (by omega)
    have hip := HIP.out.1 rfl
    have hp0 := hip.1
    have hp2 := hip.2
    have VF := Lib.hid (HVF.out rfl)
    have VT := Lib.hid (HVT.out rfl)
    have WF := Lib.hid (HWF.out rfl hp0)
    have WT := Lib.hid (HWT.out rfl hp0)
    have e0 : E = 0 := by rw [HE.out]; rfl
    have e1 : l = wAll F T p T.length := by rw [HL.out, e0]; rfl
    have HL1 := Lib.hid e1
    clear e1 HL HE
    subst e0
    clear h1 h2 h3 hip HIP HVF HVT HWF HWT P1 P2 P3 P4 P5 P6 P7 g0 g1 g2 kw hB0 hbA
    go_wp2_with fail
    go_loopw [10, 11] (fun pv x wr => ∃ k : Nat, k ≤ T.length ∧ x = .int .i64 k ∧ (∃ n, Hid (n = (wAll F T p k).length) ∧ wr.ownsRow w.heap.size 47 3 pv n (wrow (wAll F T p k))) ∧ Below w.heap.size w wr) (fun _ x _ => T.length - (intOf x).toNat)
    case atStart => exact ⟨0, Nat.zero_le _, rfl, ⟨0, rfl, World.ownsRow_nil _ _ _ _⟩, hB⟩
    case round =>
      clear hB
      obtain ⟨j, hj, rfl, ⟨n, hn, own⟩, hB⟩ := hrel
      rcases Nat.lt_or_ge j T.length with hlt | hge
      · have HLJ : Hid (T[j]? = some T[j]) := List.getElem?_eq_getElem hlt
        have hyv := VT.out _ (List.getElem_mem hlt)
        have hyw := WT.out _ (List.getElem_mem hlt)
        obtain ⟨ad', A2, c2, rfl, hab2, d3, d4, hD⟩ := hT.at (i := j) (List.getElem?_eq_getElem hlt)
        generalize T[j] = y at *
        obtain ⟨yl, ym⟩ := y
        simp only at d3 d4 hD hyv hyw
        have HYV : Hid (validC yl) := hyv
        have HLY : Hid (lst T j = yl) := lst_at HLJ.out
        have b3 : (j : Int) < T.length := by omega
        have b4 : (0 : Int) ≤ j := by omega
        have hn0 : n = (wAll F T p j ++ wOne F yl p j 0).length := by show n = (wAll F T p j ++ []).length; rw [List.append_nil]; exact hn.out
        have own0 : wr.ownsRow w.heap.size 47 3 u10 n (wrow (wAll F T p j ++ wOne F yl p j 0)) := by show wr.ownsRow _ _ _ _ _ (wrow (wAll F T p j ++ [])); rw [List.append_nil]; exact own
        have hn0 := Lib.hid hn0
        clear hyv hn own
        go_wp2_with fail
        go_loopw [10, 12] (fun pv x wr => ∃ i : Nat, i ≤ F.length ∧ x = .int .i64 i ∧ (∃ n, Hid (n = (wAll F T p j ++ wOne F yl p j i).length) ∧ wr.ownsRow w.heap.size 47 3 pv n (wrow (wAll F T p j ++ wOne F yl p j i))) ∧ Below w.heap.size w wr) (fun _ x _ => F.length - (intOf x).toNat)
        case atStart => exact ⟨0, Nat.zero_le _, rfl, ⟨n, hn0, own0⟩, hB⟩
        case round =>
          clear hB own0 hn0
          obtain ⟨i, hi, rfl, ⟨n, hn, own⟩, hB⟩ := hrel
          rcases Nat.lt_or_ge i F.length with hlti | hgei
          · have HLI : Hid (F[i]? = some F[i]) := List.getElem?_eq_getElem hlti
            have hxv := VF.out _ (List.getElem_mem hlti)
            have hxw := WF.out _ (List.getElem_mem hlti)
            obtain ⟨ad, A1, c1, rfl, hab, d1, d2, hC⟩ := hF.at (i := i) (List.getElem?_eq_getElem hlti)
            generalize F[i] = x at *
            obtain ⟨xl, xm⟩ := x
            simp only at d1 d2 hC hxv hxw
            have b1 : (i : Int) < F.length := by omega
            have b2 : (0 : Int) ≤ i := by omega
            have hs := hB.size
            have HQ := rndQ_ref hxv HYV.out hp0 hxw hyw
            have hsz := rndQ_sz hxv HYV.out (p := p) ⟨⟨hp0, hp2⟩, fun x hx => by simp at hx; rcases hx with rfl | rfl <;> assumption⟩
            have HS := Lib.hid (rndQ_ne hxv HYV.out p)
            have HW : Hid (wOne F yl p j (i + 1) = wOne F yl p j i ++ wNew (rndQ xl yl p) i j) := by show _ = _; show wOne F yl p j i ++ wNew (rndQ (lst F i) yl p) i j = _; rw [lst_at HLI.out]
            have hlen : n ≤ 5000 := by
              rw [hn.out, List.length_append]
              have h1 := wAll_len F T p j
              have h2 := wOne_len F yl p j i
              have h3 : j * F.length ≤ 64 * 64 := Nat.mul_le_mul (by omega) lF
              omega
            have C1 := Lib.hid (fun X (h : Below wr.heap.size wr X) => rround_any xl yl xm ym (.agg #[.slice A1 xl.length c1, .bool xm]) (.agg #[.slice A2 yl.length c2, .bool ym]) p X (((hC.below hB).more hs).next h) (((hD.below hB).more hs).next h) hxv HYV.out hp0 hp2)
            rw [HQ] at C1
            generalize rndQ xl yl p = rq at *
            have KK : Hid (∀ X, Below wr.heap.size wr X → ((X.cell? (ad.add (i * 2)) = some (.slice A1 xl.length c1) ∧ X.cell? ⟨(ad.add (i * 2)).block, (ad.add (i * 2)).off + 1, none⟩ = some (.bool xm)) ∧ (X.cell? (ad'.add (j * 2)) = some (.slice A2 yl.length c2) ∧ X.cell? ⟨(ad'.add (j * 2)).block, (ad'.add (j * 2)).off + 1, none⟩ = some (.bool ym)))) := fun X h => ⟨⟨((hB.trans (h.mono hs)).cell (by rw [addr_block]; exact hab)).trans d1, ((hB.trans (h.mono hs)).cell (p := ⟨(ad.add (i * 2)).block, (ad.add (i * 2)).off + 1, none⟩) (by show (ad.add (i * 2)).block < _; rw [addr_block]; exact hab)).trans d2⟩, ⟨((hB.trans (h.mono hs)).cell (by rw [addr_block]; exact hab2)).trans d3, ((hB.trans (h.mono hs)).cell (p := ⟨(ad'.add (j * 2)).block, (ad'.add (j * 2)).off + 1, none⟩) (by show (ad'.add (j * 2)).block < _; rw [addr_block]; exact hab2)).trans d4⟩⟩
            obtain ⟨⟨x0, x1⟩, y0, y1⟩ := KK.out wr (Below.refl _ _)
            clear HQ hxv hC hxw
            go_wp2_with fail
            have bb0 := Below.refl wr.heap.size wr
            have hbs0 := bb0.size
            go_cut [13] from 54 to 74 (fun x wx => ∃ b13, x = .pointer (some ⟨b13, 0, none⟩) ∧ QAt wx b13 rq ∧ Below wr.heap.size wr wx ∧ wr.heap.size ≤ b13)
            case first =>
              go_region_held3 (fun X => (X.cell? (ad.add (i * 2)) = some (.slice A1 xl.length c1) ∧ X.cell? ⟨(ad.add (i * 2)).block, (ad.add (i * 2)).off + 1, none⟩ = some (.bool xm)) ∧ (X.cell? (ad'.add (j * 2)) = some (.slice A2 yl.length c2) ∧ X.cell? ⟨(ad'.add (j * 2)).block, (ad'.add (j * 2)).off + 1, none⟩ = some (.bool ym)))
                (((with_reducible refine KK.out _ ?_); repeat' (first | (with_reducible exact bb1) | (with_reducible exact bb0) | ((with_reducible refine Below.setCell ?_ ?_ _); rotate_left; (focus first | omega | (simp; done) | (simp; omega) | (unfold World.setCell; simp; omega))) | ((with_reducible refine Below.alloc ?_ ?_ _); rotate_left; (focus first | omega | (simp; done) | (simp; omega) | (unfold World.setCell; simp; omega))) | (with_reducible refine Below.drew ?_))))
                (first
                  | (go_at_call 35; (with_reducible refine (C1.out _ ?_).mono ?_); (focus repeat' (first | (with_reducible exact bb0) | ((with_reducible refine Below.setCell ?_ ?_ _); rotate_left; (focus first | omega | (simp; done) | (simp; omega) | (unfold World.setCell; simp; omega))) | ((with_reducible refine Below.alloc ?_ ?_ _); rotate_left; (focus first | omega | (simp; done) | (simp; omega) | (unfold World.setCell; simp; omega))) | (with_reducible refine Below.drew ?_))); rintro e w1 ⟨hb1, v1, rfl, y1⟩; have bb1 : Below wr.heap.size wr w1 := below_step (by repeat' (first | (with_reducible exact bb0) | ((with_reducible refine Below.setCell ?_ ?_ _); rotate_left; (focus first | omega | (simp; done) | (simp; omega) | (unfold World.setCell; simp; omega))) | ((with_reducible refine Below.alloc ?_ ?_ _); rotate_left; (focus first | omega | (simp; done) | (simp; omega) | (unfold World.setCell; simp; omega))) | (with_reducible refine Below.drew ?_))) hb1; have hbs1 := bb1.size; obtain ⟨t1, A3, l3, e3, A3', l3', e3', rfl⟩ := y1.form; (first | (with_reducible have ka := (Bk.new wr 66 #[.bool false, .slice none 0 0, .slice none 0 0]).drew.next' hb1; have la := ka.lt) | skip); (first | (obtain ⟨i0, i1, i2⟩ := bk3 ka; have f0 := ka.frozen 0; have f1 := ka.frozen 1; have f2 := ka.frozen 2) | skip)))
              all_goals (go_wp2_with fail)
              all_goals go_meet
              all_goals
                refine ⟨_, rfl, ?_, ?_, by omega⟩
                · first | (with_reducible exact qatN y1) | (with_reducible exact qatS ka y1)
                · repeat' (first | (with_reducible exact bb1) | (with_reducible exact bb0) | ((with_reducible refine Below.setCell ?_ ?_ _); rotate_left; (focus first | omega | (simp; done) | (simp; omega) | (unfold World.setCell; simp; omega))) | ((with_reducible refine Below.alloc ?_ ?_ _); rotate_left; (focus first | omega | (simp; done) | (simp; omega) | (unfold World.setCell; simp; omega))) | (with_reducible refine Below.drew ?_))
            case rest =>
            obtain ⟨b13, rfl, ⟨sQ, AQ, lQ, eQ, AQ', lQ', eQ', kQ, fQ⟩, hbc, hb13⟩ := hcut
            have hB2 := hB.trans (hbc.mono hs)
            have own2 := own_next own hbc
            obtain ⟨i0, i1, i2⟩ := bk3 kQ
            clear KK C1 x0 x1 y0 y1 bb0 hbs0 hB own hs hbc
            generalize wc = W1 at *
            go_wp2_with fail
            refine (qsgn_any rq _ _ fQ (by omega)).mono ?_
            rintro e w2 ⟨hb2, rfl⟩
            have hB3 := hB2.trans (hb2.mono hB2.size)
            have own3 := own_next own2 hb2
            have kQ3 := kQ.next' hb2
            have fQ3 := fQ.next hb2
            obtain ⟨i0, i1, i2⟩ := bk3 kQ3
            clear hB2 own2 kQ fQ hb2
            by_cases hpos : sgQ rq = 0
            · have hq0 : ¬ 0 < rq := fun h => HS.out.2 h hpos
              have HL : Hid (wAll F T p j ++ wOne F yl p j (i + 1) = wAll F T p j ++ wOne F yl p j i) := by
                show _ = _
                rw [HW.out]
                unfold wNew
                rw [if_neg hq0, List.append_nil]
              have hsq : (sgQ rq != 0) = false := by rw [hpos]; rfl
              generalize sgQ rq = sq at *
              clear hpos HS HW hq0
              go_wp2
              go_roundw
              case rel => exact ⟨i + 1, by omega, by go_num, ⟨n, by rw [HL.out]; exact hn, by rw [HL.out]; exact own3⟩, hB3⟩
              case measure => simp [intOf]; omega
            · have hq0 : 0 < rq := HS.out.1 hpos
              have HL : Hid (wAll F T p j ++ wOne F yl p j (i + 1) = (wAll F T p j ++ wOne F yl p j i) ++ [(i, j, rq)]) := by
                show _ = _
                rw [HW.out]
                unfold wNew
                rw [if_pos hq0, List.append_assoc]
              have hsq : (sgQ rq != 0) = true := by simpa using hpos
              generalize sgQ rq = sq at *
              clear hpos HS HW hq0
              go_wp2_with fail
              refine (qtext_any rq _ _ fQ3 (by omega)).mono ?_
              rintro e w3 ⟨hb3, rfl⟩
              have hB4 := hB3.trans (hb3.mono hB3.size)
              have own4 := own_next own3 hb3
              have hs4 := hB4.size
              have HX : Hid (wrow ((wAll F T p j ++ wOne F yl p j i) ++ [(i, j, rq)]) = wrow (wAll F T p j ++ wOne F yl p j i) ++ [.int .i64 (i : Int), .int .i64 (j : Int), .string ⟨(ratText rq).toArray⟩]) := wrow_app _ _
              generalize ratText rq = tx at *
              generalize wrow (wAll F T p j ++ wOne F yl p j i) = rows at *
              clear hB3 own3 kQ3 fQ3 hb3 i0 i1 i2
              go_wp2_with (at_builtin; refine wpL_append _ rfl (.tmp 67) (.tmp 73) _ rfl w.heap.size 47 iw _ 3 32 Tryz.underlying41 hiw hz0 hz1 hz2 rfl (by omega) _ n rows rfl (own4.alloc _) (some ⟨w3.heap.size, 0, none⟩) 1 1 [.int .i64 (i : Int), .int .i64 (j : Int), .string ⟨tx.toArray⟩] rfl rfl (Rd.of_new w3 [.int .i64 (i : Int), .int .i64 (j : Int), .string ⟨tx.toArray⟩] 47) (by intro u hu; simp at hu; rcases hu with rfl | rfl | rfl <;> rfl) (by unfold maxLen; omega) (by omega) (by simp; omega) ?_; intro v5 w5 hw1 hw2 _)
              have hB5 := below_app (hB4.alloc hs4 _) hw2 (by simp; omega) (own4.alloc _) (Nat.le_refl _)
              rw [← HX.out, ← HL.out] at hw1
              have hn5 : Hid (n + 1 = (wAll F T p j ++ wOne F yl p j (i + 1)).length) := by show _ = _; rw [HL.out, List.length_append, ← hn.out]; rfl
              clear own4 hw2 hB4 hs4
              go_roundw
              case rel => exact ⟨i + 1, by omega, by go_num, ⟨n + 1, hn5, hw1⟩, hB5⟩
              case measure => simp [intOf]; omega
          · obtain rfl : i = F.length := by omega
            have HL : Hid (wAll F T p (j + 1) = wAll F T p j ++ wOne F yl p j F.length) := by show wAll F T p j ++ wOne F (lst T j) p j F.length = _; rw [HLY.out]
            rw [← HL.out] at own hn
            go_wp2
            go_roundw
            case rel => exact ⟨j + 1, by omega, by go_num, ⟨n, hn, own⟩, hB⟩
            case measure => simp [intOf]; omega
      · obtain rfl : j = T.length := by omega
        rw [← HL1.out] at own hn
        obtain ⟨Ap, cp, rfl, _⟩ := own_slice own
        have hrdP := Lib.hid (Rd.of_own own)
        clear own
        go_wp2
        go_ret2
        exact ⟨hB, Ap, cp, by rw [← hn.out]; rfl, hrdP.out⟩
end Go.Proofs.YtaihplgfbepgpaaGreatDoor

namespace Go.Proofs.YtaihplgfbepgpaaGreatDoor
open Go.RowKit Ar

theorem gridq_any (L : List Ce) (v : Value) (p : Int) (w : World) (h : IsCs w w.heap.size v L) (hval : ∀ x ∈ L, validC x.1) (hL : L.length ≤ 64) (hp : 0 ≤ p) (hp2 : p ≤ 1048576) (hwid : ∀ x ∈ L, p = 0 ∨ wid x.1 ≤ p) (z : Bool) (hz : z = true ↔ flatP p L) :
    Calls Tryz.prog 23 #[v, .int .i64 p] w fun e w' => Below w.heap.size w w' ∧ e = .returned (.bool z) := by
  by_cases h0 : p = 0
  · subst h0
    exact grid_any L v w h hval (by omega) z (by rw [hz, flatP_zero]; exact ⟨fun h => ⟨hL, h⟩, fun h => h.2⟩)
  · exact gridp_any L v p w h hval (by omega) (by omega) hp2 (fun x hx => by have := hwid x hx; omega) z (by rw [hz]; exact ⟨fun h => ⟨hL, h⟩, fun h => h.2⟩)

set_option maxRecDepth 100000 in
set_option maxHeartbeats 6400000 in
theorem Weights_any (F T : List Ce) (vF vT : Value) (p : Int) (w : World) (hF : IsCs w w.heap.size vF F) (hT : IsCs w w.heap.size vT T) (he : EnvR w) (lF : F.length ≤ 64) (lT : T.length ≤ 64) (bF bT ip xF xT gF gT : Bool) (hbF : bF = true ↔ ∃ x ∈ F, ¬ validC x.1) (hbT : bT = true ↔ ∃ x ∈ T, ¬ validC x.1) (hip : ip = true ↔ 0 ≤ p ∧ p ≤ 1048576) (hxF : xF = true ↔ ∃ x ∈ F, 0 < p ∧ p < wid x.1) (hxT : xT = true ↔ ∃ x ∈ T, 0 < p ∧ p < wid x.1) (hgF : gF = true ↔ flatP p F) (hgT : gT = true ↔ flatP p T) :
    Calls Tryz.prog 17 #[vF, vT, .int .i64 p] w fun e w' => Below w.heap.size w w' ∧ ∃ A c, e = .returned (.tuple #[.slice A (wList F T p (wErr bF bT ip xF xT gF gT)).length c, .int .i64 ((wErr bF bT ip xF xT gF gT) : Int)]) ∧ Rd w' w'.heap.size A (wrow (wList F T p (wErr bF bT ip xF xT gF gT))) := by
  obtain ⟨bad, hbad⟩ := bool_of (∃ x ∈ F ++ T, ¬ validC x.1)
  obtain ⟨per, hper⟩ := bool_of (perOk p (F ++ T))
  have eb : bad = (bF || bT) := by
    rw [Bool.eq_iff_iff, hbad, Bool.or_eq_true, hbF, hbT]
    constructor
    · rintro ⟨x, hx, h0⟩
      rcases List.mem_append.1 hx with h | h
      · exact .inl ⟨x, h, h0⟩
      · exact .inr ⟨x, h, h0⟩
    · rintro (⟨x, h, h0⟩ | ⟨x, h, h0⟩)
      · exact ⟨x, List.mem_append.2 (.inl h), h0⟩
      · exact ⟨x, List.mem_append.2 (.inr h), h0⟩
  have ep : per = (ip && !xF && !xT) := by
    rw [Bool.eq_iff_iff, hper]
    simp only [Bool.and_eq_true, Bool.not_eq_true', Bool.eq_false_iff, Ne, hip, hxF, hxT]
    unfold perOk
    constructor
    · rintro ⟨h1, h2⟩
      refine ⟨⟨h1, ?_⟩, ?_⟩
      · rintro ⟨x, hx, h3⟩
        have := h2 x (List.mem_append.2 (.inl hx)); omega
      · rintro ⟨x, hx, h3⟩
        have := h2 x (List.mem_append.2 (.inr hx)); omega
    · rintro ⟨⟨h1, h2⟩, h3⟩
      refine ⟨h1, fun x hx => ?_⟩
      rcases List.mem_append.1 hx with h | h
      · exact Classical.byContradiction fun h0 => h2 ⟨x, h, by omega⟩
      · exact Classical.byContradiction fun h0 => h3 ⟨x, h, by omega⟩
  have CE := Lib.hid (fun X r (h : IsCs X X.heap.size r (F ++ T)) => cells_any r (F ++ T) X (by rw [List.length_append]; omega) h bad hbad)
  have PE := Lib.hid (fun (hv : ∀ x ∈ F ++ T, validC x.1) X r (h : IsCs X X.heap.size r (F ++ T)) => periodic_any (F ++ T) r p X h hv (by rw [List.length_append]; omega) per hper)
  have GP := Lib.hid (fun (L : List Ce) (v : Value) (g : Bool) (X : World) (h : IsCs X X.heap.size v L) (hv : ∀ x ∈ L, validC x.1) (l64 : L.length ≤ 64) (h0 : 0 ≤ p) (h2 : p ≤ 1048576) (hw : ∀ x ∈ L, p = 0 ∨ wid x.1 ≤ p) (hg : g = true ↔ flatP p L) => gridq_any L v p X h hv l64 h0 h2 hw g hg)
  have HGF := Lib.hid hgF
  have HGT := Lib.hid hgT
  have hFF := hF
  have hTT := hT
  obtain ⟨A, cF, rfl⟩ := hF.form
  obtain ⟨A', cT, rfl⟩ := hT.form
  have hcF := hF.cap
  have hcT := hT.cap
  have HV : Hid (bad = false → ∀ x ∈ F ++ T, validC x.1) := fun h x hx => Classical.byContradiction fun h0 => by rw [hbad.2 ⟨x, hx, h0⟩] at h; cases h
  have HPO := Lib.hid hper
  obtain ⟨iw, hiw, hz0, hz1, hz2⟩ := info_parts Tryz.weight_info
  obtain ⟨E, hE⟩ : ∃ E, E = wErr bF bT ip xF xT gF gT := ⟨_, rfl⟩
  rw [← hE]
  obtain ⟨l, hl⟩ : ∃ l, l = wList F T p E := ⟨_, rfl⟩
  rw [← hl]
  have HL := Lib.hid hl
  clear hl
  have HE : Hid (E = if bad then 80 else if !per then 2 else if !gF || !gT then 81 else 0) := by
    show _ = _
    rw [hE, eb, ep]
    unfold wErr
    cases ip <;> cases xF <;> cases xT <;> rfl
  clear hE eb ep hbF hbT hip hxF hxT hgF hgT hbad hper
  go_enter Tryz.func17, Tryz.ntmps17
  go_wp2_with fail
  have hbA := below_alloc w (.cells #[.slice A F.length cF, .slice A' T.length cT] 22)
  have CC := concatC_any F T _ _ _ _ (hFF.next hbA) (hTT.next hbA) (Bk.new w 22 #[.slice A F.length cF, .slice A' T.length cT]) (by omega)
  refine CC.mono ?_
  rintro e w1 ⟨hb1, r, rfl, hR⟩
  have hB1 := hbA.trans (hb1.mono hbA.size)
  clear CC hb1 hbA hFF hTT
  obtain ⟨Ar, cr, rfl⟩ := hR.form
  generalize (F ++ T).length = nr at *
  go_wp2_with fail
  refine (CE.out w1 _ hR).mono ?_
  rintro e w2 ⟨hb2, rfl⟩
  have hB2 := hB1.trans (hb2.mono hB1.size)
  have hR2 := hR.next hb2
  clear CE hb2 hB1 hR
  cases bad with
  | true =>
    have e2 : E = 80 := by rw [HE.out]; rfl
    have e3 : l = [] := by rw [HL.out, e2]; exact wList_err (by decide)
    clear HL HE
    subst e2
    subst e3
    go_wp2
    go_ret2
    exact ⟨hB2, none, 0, rfl, fun h0 => absurd rfl h0⟩
  | false =>
  have VV := HV.out rfl
  have VF : Hid (∀ x ∈ F, validC x.1) := fun x hx => VV x (List.mem_append.2 (.inl hx))
  have VT : Hid (∀ x ∈ T, validC x.1) := fun x hx => VV x (List.mem_append.2 (.inr hx))
  have PE := Lib.hid (PE.out VV)
  clear VV HV
  go_wp2_with fail
  refine (PE.out w2 _ hR2).mono ?_
  rintro e w3 ⟨hb3, rfl⟩
  have hB3 := hB2.trans (hb3.mono hB2.size)
  clear PE hb3 hB2 hR2
  cases per with
  | false =>
    have e2 : E = 2 := by rw [HE.out]; rfl
    have e3 : l = [] := by rw [HL.out, e2]; exact wList_err (by decide)
    clear HL HE
    subst e2
    subst e3
    go_wp2
    go_ret2
    exact ⟨hB3, none, 0, rfl, fun h0 => absurd rfl h0⟩
  | true =>
  have hpo := HPO.out.1 rfl
  have hp0 := hpo.1.1
  have hp2 := hpo.1.2
  have WF : Hid (∀ x ∈ F, p = 0 ∨ wid x.1 ≤ p) := fun x hx => hpo.2 x (List.mem_append.2 (.inl hx))
  have WT : Hid (∀ x ∈ T, p = 0 ∨ wid x.1 ≤ p) := fun x hx => hpo.2 x (List.mem_append.2 (.inr hx))
  clear hpo HPO
  go_wp2_with fail
  refine (GP.out F _ gF w3 ((hF.below hB3).more hB3.size) VF.out lF hp0 hp2 WF.out HGF.out).mono ?_
  rintro e w4 ⟨hb4, rfl⟩
  have hB4 := hB3.trans (hb4.mono hB3.size)
  clear hb4 hB3
  cases gF with
  | false =>
    have e2 : E = 81 := by rw [HE.out]; rfl
    have e3 : l = [] := by rw [HL.out, e2]; exact wList_err (by decide)
    clear HL HE
    subst e2
    subst e3
    go_wp2
    go_ret2
    exact ⟨hB4, none, 0, rfl, fun h0 => absurd rfl h0⟩
  | true =>
  go_wp2_with fail
  refine (GP.out T _ gT w4 ((hT.below hB4).more hB4.size) VT.out lT hp0 hp2 WT.out HGT.out).mono ?_
  rintro e w5 ⟨hb5, rfl⟩
  have hB := hB4.trans (hb5.mono hB4.size)
  clear hb5 hB4 GP
  cases gT with
  | false =>
    have e2 : E = 81 := by rw [HE.out]; rfl
    have e3 : l = [] := by rw [HL.out, e2]; exact wList_err (by decide)
    clear HL HE
    subst e2
    subst e3
    go_wp2
    go_ret2
    exact ⟨hB, none, 0, rfl, fun h0 => absurd rfl h0⟩
  | true =>
  have e0 : E = 0 := by rw [HE.out]; rfl
  have e1 : l = wAll F T p T.length := by rw [HL.out, e0]; rfl
  have HL1 := Lib.hid e1
  clear e1 HL HE HGF HGT
  subst e0
  go_wp2_with fail
  go_loopw [11, 44] (fun pv x wr => ∃ k : Nat, k ≤ T.length ∧ x = .int .i64 k ∧ (∃ n, Hid (n = (wAll F T p k).length) ∧ wr.ownsRow w.heap.size 47 3 pv n (wrow (wAll F T p k))) ∧ Below w.heap.size w wr) (fun _ x _ => T.length - (intOf x).toNat)
  case atStart => exact ⟨0, Nat.zero_le _, rfl, ⟨0, rfl, World.ownsRow_nil _ _ _ _⟩, hB⟩
  case round =>
    clear hB
    obtain ⟨j, hj, rfl, ⟨n, hn, own⟩, hB⟩ := hrel
    rcases Nat.lt_or_ge j T.length with hlt | hge
    · have HLJ : Hid (T[j]? = some T[j]) := List.getElem?_eq_getElem hlt
      have hyv := VT.out _ (List.getElem_mem hlt)
      have hyw := WT.out _ (List.getElem_mem hlt)
      obtain ⟨ad', A2, c2, rfl, hab2, d3', d4', hD'⟩ := hT.at (i := j) (List.getElem?_eq_getElem hlt)
      generalize T[j] = y at *
      obtain ⟨yl, ym⟩ := y
      simp only at d3' d4' hD' hyv hyw
      have d3 := (hB.cell (p := ad'.add (j * 2)) (by rw [addr_block]; exact hab2)).trans d3'
      have d4 := (hB.cell (p := ⟨(ad'.add (j * 2)).block, (ad'.add (j * 2)).off + 1, none⟩) (by show (ad'.add (j * 2)).block < _; rw [addr_block]; exact hab2)).trans d4'
      have HYV : Hid (validC yl) := hyv
      have HLY : Hid (lst T j = yl) := lst_at HLJ.out
      have b3 : (j : Int) < T.length := by omega
      have b4 : (0 : Int) ≤ j := by omega
      have hwo := below_alloc wr (.cells #[.slice A2 yl.length c2, .bool ym] 33)
      have kb := Bk.new wr 33 #[.slice A2 yl.length c2, .bool ym]
      have hD0 : Hid (∀ X, Below w.heap.size w X → IsC X X.heap.size (.agg #[.slice A2 yl.length c2, .bool ym]) yl ym) := fun X h => (hD'.below h).more h.size
      have hB2 := hB.trans (hwo.mono hB.size)
      have hne0 : Hid (u11.ownBlock ≠ some wr.heap.size) := fun e => by have := (own.lt _ e).2; omega
      have ownA := own_next own hwo
      have own0 : (wr.alloc (.cells #[.slice A2 yl.length c2, .bool ym] 33)).ownsRow w.heap.size 47 3 u11 n (wrow (wAll F T p j ++ wOne F yl p j 0)) := by show World.ownsRow _ _ _ _ _ _ (wrow (wAll F T p j ++ [])); rw [List.append_nil]; exact ownA
      have hn0 : Hid (n = (wAll F T p j ++ wOne F yl p j 0).length) := by show n = (wAll F T p j ++ []).length; rw [List.append_nil]; exact hn.out
      obtain ⟨bb, hbb⟩ : ∃ b, b = wr.heap.size := ⟨_, rfl⟩
      clear hyv hn own ownA hD' hwo d3' d4'
      go_wp2_with fail
      rw [← hbb] at kb hne0 ⊢
      clear hbb d3 d4 hB
      generalize (wr.alloc (.cells #[.slice A2 yl.length c2, .bool ym] 33)) = W0 at *
      go_loopw [11, 51] (fun pv x wr => ∃ i : Nat, i ≤ F.length ∧ x = .int .i64 i ∧ (∃ n, Hid (n = (wAll F T p j ++ wOne F yl p j i).length) ∧ wr.ownsRow w.heap.size 47 3 pv n (wrow (wAll F T p j ++ wOne F yl p j i))) ∧ Below w.heap.size w wr ∧ Bk wr bb 33 #[.slice A2 yl.length c2, .bool ym] ∧ Hid (pv.ownBlock ≠ some bb)) (fun _ x _ => F.length - (intOf x).toNat)
      case atStart => exact ⟨0, Nat.zero_le _, rfl, ⟨n, hn0, own0⟩, hB2, kb, hne0⟩
      case round =>
        clear own0 hn0 hB2 kb hne0
        obtain ⟨i, hi, rfl, ⟨n, hn, own⟩, hB, kb, hne⟩ := hrel
        rcases Nat.lt_or_ge i F.length with hlti | hgei
        · have HLI : Hid (F[i]? = some F[i]) := List.getElem?_eq_getElem hlti
          have hxv := VF.out _ (List.getElem_mem hlti)
          have hxw := WF.out _ (List.getElem_mem hlti)
          obtain ⟨ad, A1, c1, rfl, hab, d1, d2, hC⟩ := (hF.below hB).at (i := i) (List.getElem?_eq_getElem hlti)
          generalize F[i] = x at *
          obtain ⟨xl, xm⟩ := x
          simp only at d1 d2 hC hxv hxw
          have b1 : (i : Int) < F.length := by omega
          have b2 : (0 : Int) ≤ i := by omega
          have hs := hB.size
          have hsz := rndQ_sz hxv HYV.out (p := p) ⟨⟨hp0, hp2⟩, fun x hx => by simp at hx; rcases hx with rfl | rfl <;> assumption⟩
          have HS := Lib.hid (sgQ_gt (rndQ xl yl p))
          have HW : Hid (wOne F yl p j (i + 1) = wOne F yl p j i ++ wNew (rndQ xl yl p) i j) := by show _ = _; show wOne F yl p j i ++ wNew (rndQ (lst F i) yl p) i j = _; rw [lst_at HLI.out]
          have hlen : n ≤ 5000 := by
            rw [hn.out, List.length_append]
            have h1 := wAll_len F T p j
            have h2 := wOne_len F yl p j i
            have h3 : j * F.length ≤ 64 * 64 := Nat.mul_le_mul (by omega) lF
            omega
          have hw1 := below_alloc wr (.cells #[.slice A1 xl.length c1, .bool xm] 33)
          have C1 := rounded_any xl yl xm ym (.agg #[.slice A1 xl.length c1, .bool xm]) (.agg #[.slice A2 yl.length c2, .bool ym]) p _ ((hC.more hs).next hw1) (hD0.out _ (hB.trans (hw1.mono hs))) hxv HYV.out hp0 hp2 hxw hyw
          generalize rndQ xl yl p = rq at *
          have kb1 := kb.next' hw1
          have lb1 := kb1.lt
          have hB3 := hB.trans (hw1.mono hs)
          have own3 := own_next own hw1
          obtain ⟨y0, y1⟩ := bk2 kb1
          clear hxv hC hxw own hB kb
          go_wp2_with fail
          refine C1.mono ?_
          rintro e w4 ⟨hb4, v4, rfl, hF4⟩
          obtain ⟨sQ, AQ, lQ, eQ, AQ', lQ', eQ', rfl⟩ := hF4.form
          have hB4 := hB3.trans (hb4.mono hB3.size)
          have own4 := own_next own3 hb4
          have kb4 := kb1.next' hb4
          have hw5 := below_alloc w4 (.cells #[.bool sQ, .slice AQ lQ eQ, .slice AQ' lQ' eQ'] 56)
          have kQ := Bk.new w4 56 #[.bool sQ, .slice AQ lQ eQ, .slice AQ' lQ' eQ']
          have fQ := hF4.next hw5
          have hB5 := hB4.trans (hw5.mono hB4.size)
          have own5 := own_next own4 hw5
          have kb5 := kb4.next' hw5
          obtain ⟨bq, hbq⟩ : ∃ b, b = w4.heap.size := ⟨_, rfl⟩
          clear C1 hB3 own3 hb4 hF4 hB4 own4 y0 y1 hw1 d1 d2 lb1 kb1 kb4 hw5 hs
          go_wp2_with fail
          rw [← hbq] at kQ ⊢
          clear hbq
          generalize (w4.alloc (.cells #[.bool sQ, .slice AQ lQ eQ, .slice AQ' lQ' eQ'] 56)) = w5 at *
          refine (fsign_any rq _ w5 fQ).mono ?_
          rintro e w6 ⟨hb6, rfl⟩
          have hB6 := hB5.trans (hb6.mono hB5.size)
          have own6 := own_next own5 hb6
          have kb6 := kb5.next' hb6
          have kQ6 := kQ.next' hb6
          have fQ6 := fQ.next hb6
          obtain ⟨i0, i1, i2⟩ := bk3 kQ6
          clear hB5 own5 kQ fQ hb6 kb5
          by_cases hpos : 0 < sgQ rq
          · have hq0 : 0 < rq := HS.out.1 hpos
            have HL : Hid (wAll F T p j ++ wOne F yl p j (i + 1) = (wAll F T p j ++ wOne F yl p j i) ++ [(i, j, rq)]) := by
              show _ = _
              rw [HW.out]
              unfold wNew
              rw [if_pos hq0, List.append_assoc]
            have he6 := he.next hB6
            generalize sgQ rq = sq at *
            clear HS HW hq0
            go_wp2_with fail
            refine (flong_any rq _ w6 fQ6 (by omega) he6).mono ?_
            rintro e w7 ⟨hb7, rfl⟩
            have hB7 := hB6.trans (hb7.mono hB6.size)
            have own7 := own_next own6 hb7
            have kb7 := kb6.next' hb7
            have hs7 := hB7.size
            have HX : Hid (wrow ((wAll F T p j ++ wOne F yl p j i) ++ [(i, j, rq)]) = wrow (wAll F T p j ++ wOne F yl p j i) ++ [.int .i64 (i : Int), .int .i64 (j : Int), .string ⟨(ratText rq).toArray⟩]) := wrow_app _ _
            generalize ratText rq = tx at *
            generalize wrow (wAll F T p j ++ wOne F yl p j i) = rows at *
            clear hB6 own6 kQ6 fQ6 hb7 i0 i1 i2 he6 kb6
            go_wp2_with (at_builtin; refine wpL_append _ rfl (.tmp 63) (.tmp 69) _ rfl w.heap.size 47 iw _ 3 32 Tryz.underlying41 hiw hz0 hz1 hz2 rfl (by omega) _ n rows rfl (own7.alloc _) (some ⟨w7.heap.size, 0, none⟩) 1 1 [.int .i64 (i : Int), .int .i64 (j : Int), .string ⟨tx.toArray⟩] rfl rfl (Rd.of_new w7 [.int .i64 (i : Int), .int .i64 (j : Int), .string ⟨tx.toArray⟩] 47) (by intro u hu; simp at hu; rcases hu with rfl | rfl | rfl <;> rfl) (by unfold maxLen; omega) (by omega) (by simp; omega) ?_; intro v8 w8 hw1 hw2 hw3)
            have hB8 := below_app (hB7.alloc hs7 _) hw2 (by simp; omega) (own7.alloc _) (Nat.le_refl _)
            have lb7 := kb7.lt
            have kb8 := (kb7.alloc (.cells #[.int .i64 (i : Int), .int .i64 (j : Int), .string ⟨tx.toArray⟩] 47)).grown hw2 (fun e => hne.out e.symm)
            have hne8 : Hid (v8.ownBlock ≠ some bb) := fun e => by
              rcases hw3 with h | h
              · rw [h] at e; exact hne.out e
              · rw [h] at e; injection e with e; simp at e; omega
            rw [← HX.out, ← HL.out] at hw1
            have hn5 : Hid (n + 1 = (wAll F T p j ++ wOne F yl p j (i + 1)).length) := by show _ = _; rw [HL.out, List.length_append, ← hn.out]; rfl
            clear own7 hw2 hw3 hB7 hs7 kb7 lb7 hne
            go_roundw
            case rel => exact ⟨i + 1, by omega, by go_num, ⟨n + 1, hn5, hw1⟩, hB8, kb8, hne8⟩
            case measure => simp [intOf]; omega
          · have hq0 : ¬ 0 < rq := fun h => hpos (HS.out.2 h)
            have HL : Hid (wAll F T p j ++ wOne F yl p j (i + 1) = wAll F T p j ++ wOne F yl p j i) := by
              show _ = _
              rw [HW.out]
              unfold wNew
              rw [if_neg hq0, List.append_nil]
            generalize sgQ rq = sq at *
            clear HS HW hq0
            go_wp2
            go_roundw
            case rel => exact ⟨i + 1, by omega, by go_num, ⟨n, by rw [HL.out]; exact hn, by rw [HL.out]; exact own6⟩, hB6, kb6, hne⟩
            case measure => simp [intOf]; omega
        · obtain rfl : i = F.length := by omega
          have HL : Hid (wAll F T p (j + 1) = wAll F T p j ++ wOne F yl p j F.length) := by show wAll F T p j ++ wOne F (lst T j) p j F.length = _; rw [HLY.out]
          rw [← HL.out] at own hn
          go_wp2
          go_roundw
          case rel => exact ⟨j + 1, by omega, by go_num, ⟨n, hn, own⟩, hB⟩
          case measure => simp [intOf]; omega
    · obtain rfl : j = T.length := by omega
      rw [← HL1.out] at own hn
      obtain ⟨Ap, cp, rfl, _⟩ := own_slice own
      have hrdP := Lib.hid (Rd.of_own own)
      clear own
      go_wp2
      go_ret2
      exact ⟨hB, Ap, cp, by rw [← hn.out]; rfl, hrdP.out⟩
end Go.Proofs.YtaihplgfbepgpaaGreatDoor

namespace Go.Proofs.YtaihplgfbepgpaaGreatDoor
open Go.RowKit Ar

theorem wcell_at {l : List We} {i : Nat} {x : We} (h : l[i]? = some x) : (wrow l)[i * 3]? = some (.int .i64 (x.1 : Int)) ∧ (wrow l)[i * 3 + 1]? = some (.int .i64 (x.2.1 : Int)) ∧ (wrow l)[i * 3 + 2]? = some (.string ⟨(ratText x.2.2).toArray⟩) := by
  induction l generalizing i with
  | nil => simp at h
  | cons q l ih =>
    cases i with
    | zero => simp at h; subst h; exact ⟨rfl, rfl, rfl⟩
    | succ i =>
      have := ih (i := i) (by simpa using h)
      have e : wrow (q :: l) = .int .i64 (q.1 : Int) :: .int .i64 (q.2.1 : Int) :: .string ⟨(ratText q.2.2).toArray⟩ :: wrow l := rfl
      rw [e, show (i + 1) * 3 = i * 3 + 1 + 1 + 1 by omega]
      exact this
theorem Rd.weight {w : World} {B : Nat} {A : Option Addr} {l : List We} (h : Rd w B A (wrow l)) {i : Nat} {x : We} (hx : l[i]? = some x) :
    ∃ ad, A = some ad ∧ ad.block < B ∧ w.cell? (ad.add (i * 3)) = some (.int .i64 (x.1 : Int)) ∧ w.cell? ⟨(ad.add (i * 3)).block, (ad.add (i * 3)).off + 1, none⟩ = some (.int .i64 (x.2.1 : Int)) ∧ w.cell? ⟨(ad.add (i * 3)).block, (ad.add (i * 3)).off + 2, none⟩ = some (.string ⟨(ratText x.2.2).toArray⟩) := by
  obtain ⟨h1, h2, h3⟩ := wcell_at hx
  obtain ⟨ad, e, hb, hc⟩ := h (by intro e; rw [e] at h1; simp at h1)
  exact ⟨ad, e, hb, hc _ _ h1, by rw [addr_next]; exact hc _ _ h2, by rw [addr_plus ad (i * 3) 1]; exact hc _ _ h3⟩

set_option maxRecDepth 100000 in
set_option maxHeartbeats 1600000 in
theorem sameWeights_any (l : List We) (A A' : Option Addr) (c c' : Nat) (w : World) (hl : l.length ≤ 1000000) (h : Rd w w.heap.size A (wrow l)) (h' : Rd w w.heap.size A' (wrow l)) :
    Calls Tryz.prog 19 #[.slice A l.length c, .slice A' l.length c'] w fun e w' => Below w.heap.size w w' ∧ e = .returned (.bool true) := by
  go_enter Tryz.func19, Tryz.ntmps19
  go_wp2_with fail
  go_loopw [5] (fun x wr => ∃ i : Nat, i ≤ l.length ∧ x = .int .i64 i ∧ Below w.heap.size w wr) (fun x _ => l.length - (intOf x).toNat)
  case atStart => exact ⟨0, Nat.zero_le _, rfl, Below.refl _ _⟩
  case round =>
    obtain ⟨i, hi, rfl, hB⟩ := hrel
    rcases Nat.lt_or_ge i l.length with hlt | hge
    · obtain ⟨ad, rfl, hab, d1, d2, d3⟩ := (h.below hB).weight (List.getElem?_eq_getElem hlt)
      obtain ⟨ad', rfl, hab', d4, d5, d6⟩ := (h'.below hB).weight (List.getElem?_eq_getElem hlt)
      have b1 : (0 : Int) ≤ (i : Int) := by omega
      have b2 : (i : Int) < (l.length : Int) := by omega
      generalize l[i] = x at *
      obtain ⟨x1, x2, x3⟩ := x
      simp only at d1 d2 d3 d4 d5 d6
      generalize ratText x3 = tx at *
      go_wp2_with fail
      go_quiet (fail)
      go_wp2
      go_roundw
      case rel => exact ⟨i + 1, by omega, by go_num, below_drewN hB nq⟩
      case measure => simp [intOf]; omega
    · have hkl : i = l.length := by omega
      subst hkl
      go_wp2
      go_ret
      exact ⟨hB, rfl⟩

theorem wList_len (F T : List Ce) (p : Int) (E : Nat) (lF : F.length ≤ 64) (lT : T.length ≤ 64) : (wList F T p E).length ≤ 1000000 := by
  unfold wList
  split
  · have h1 := wAll_len F T p T.length
    have h2 : T.length * F.length ≤ 64 * 64 := Nat.mul_le_mul lT lF
    omega
  · simp

set_option maxRecDepth 100000 in
set_option maxHeartbeats 3200000 in
theorem weights_walk (F T : List Ce) (A A' : Option Addr) (cF cT : Nat) (p : Int) (w : World) (hF : IsCs w w.heap.size (.slice A F.length cF) F) (hT : IsCs w w.heap.size (.slice A' T.length cT) T) (he : EnvR w) (hlF : F.length ≤ maxLen) (hlT : T.length ≤ maxLen) (hmF : ∀ x ∈ F, x.1.length ≤ maxLen) (hmT : ∀ x ∈ T, x.1.length ≤ maxLen) :
    Calls Tryz.prog 5 #[.agg #[.slice A F.length cF, .slice A' T.length cT, .int .i64 p]] w fun e w' => Below w.heap.size w w' ∧ e = .returned (.bool true) := by
  obtain ⟨yF, hyF⟩ := bool_of (5 < F.length ∨ ∃ x ∈ F, 10 < x.1.length)
  obtain ⟨yT, hyT⟩ := bool_of (5 < T.length ∨ ∃ x ∈ T, 10 < x.1.length)
  have M1 := Lib.hid (fun X (h : Below w.heap.size w X) => Many_any F 5 _ X ((hF.below h).more h.size) (by omega) hlF yF hyF hmF)
  have M2 := Lib.hid (fun X (h : Below w.heap.size w X) => Many_any T 5 _ X ((hT.below h).more h.size) (by omega) hlT yT hyT hmT)
  have SN := Lib.hid (fun X (hX : Below w.heap.size w X) => sane_any X (he.next hX))
  have HyF := Lib.hid hyF
  have HyT := Lib.hid hyT
  have HHF := Lib.hid hF
  have HHT := Lib.hid hT
  clear hyF hyT hmF hmT hlF hlT hF hT
  go_enter Tryz.func5, Tryz.ntmps5
  go_wp2_with fail
  have hB0 := below_alloc w (.cells #[.slice A F.length cF, .slice A' T.length cT, .int .i64 p] 40)
  have k0 := Bk.new w 40 #[.slice A F.length cF, .slice A' T.length cT, .int .i64 p]
  obtain ⟨b0, hb0⟩ : ∃ b, b = w.heap.size := ⟨_, rfl⟩
  rw [← hb0] at k0 ⊢
  clear hb0
  generalize (w.alloc (.cells #[.slice A F.length cF, .slice A' T.length cT, .int .i64 p] 40)) = w0 at *
  refine (M1.out w0 hB0).mono ?_
  rintro e w1 ⟨hb1, rfl⟩
  have hB1 := hB0.trans (hb1.mono hB0.size)
  have k1 := k0.next' hb1
  obtain ⟨g0, g1, g2⟩ := bk3 k1
  clear M1 hb1 k0 hB0
  cases yF with
  | true =>
    go_wp2_with fail
    refine (SN.out _ hB1).mono ?_
    rintro e w2 ⟨hb2, rfl⟩
    have hB := hB1.trans (hb2.mono hB1.size)
    clear hb2 hB1
    go_wp2
    go_ret
    exact ⟨hB, rfl⟩
  | false =>
  go_wp2_with fail
  refine (M2.out w1 hB1).mono ?_
  rintro e w2 ⟨hb2, rfl⟩
  have hB2 := hB1.trans (hb2.mono hB1.size)
  have k2 := k1.next' hb2
  obtain ⟨g0, g1, g2⟩ := bk3 k2
  clear M2 hb2 k1 hB1
  cases yT with
  | true =>
    go_wp2_with fail
    refine (SN.out _ hB2).mono ?_
    rintro e w3 ⟨hb3, rfl⟩
    have hB := hB2.trans (hb3.mono hB2.size)
    clear hb3 hB2
    go_wp2
    go_ret
    exact ⟨hB, rfl⟩
  | false =>
  have lF : F.length ≤ 64 := by
    rcases Nat.lt_or_ge 5 F.length with h | h
    · have := HyF.out.2 (Or.inl h); cases this
    · omega
  have lT : T.length ≤ 64 := by
    rcases Nat.lt_or_ge 5 T.length with h | h
    · have := HyT.out.2 (Or.inl h); cases this
    · omega
  obtain ⟨bF, hbF⟩ := bool_of (∃ x ∈ F, ¬ validC x.1)
  obtain ⟨bT, hbT⟩ := bool_of (∃ x ∈ T, ¬ validC x.1)
  obtain ⟨ip, hip⟩ := bool_of (0 ≤ p ∧ p ≤ 1048576)
  obtain ⟨xF, hxF⟩ := bool_of (∃ x ∈ F, 0 < p ∧ p < wid x.1)
  obtain ⟨xT, hxT⟩ := bool_of (∃ x ∈ T, 0 < p ∧ p < wid x.1)
  obtain ⟨gF, hgF⟩ := bool_of (flatP p F)
  obtain ⟨gT, hgT⟩ := bool_of (flatP p T)
  have A1 := Lib.hid (fun X (hX : Below w.heap.size w X) => Weights_any F T _ _ p X ((HHF.out.below hX).more hX.size) ((HHT.out.below hX).more hX.size) (he.next hX) lF lT bF bT ip xF xT gF gT hbF hbT hip hxF hxT hgF hgT)
  have A2 := Lib.hid (fun X (hX : Below w.heap.size w X) => RWeights_any F T _ _ p X ((HHF.out.below hX).more hX.size) ((HHT.out.below hX).more hX.size) lF lT bF bT ip xF xT gF gT hbF hbT hip hxF hxT hgF hgT)
  have hl := wList_len F T p (wErr bF bT ip xF xT gF gT) lF lT
  generalize wList F T p (wErr bF bT ip xF xT gF gT) = l at *
  generalize wErr bF bT ip xF xT gF gT = E at *
  clear HyF HyT HHF HHT hbF hbT hip hxF hxT hgF hgT
  go_wp2_with fail
  refine (A1.out w2 hB2).mono ?_
  rintro e w3 ⟨hb3, Aa, cca, rfl, ra⟩
  have hB3 := hB2.trans (hb3.mono hB2.size)
  have k3 := k2.next' hb3
  obtain ⟨g0, g1, g2⟩ := bk3 k3
  clear A1 hb3 hB2 k2
  go_wp2_with fail
  refine (A2.out w3 hB3).mono ?_
  rintro e w4 ⟨hb4, Ab, ccb, rfl, rb⟩
  have hB4 := hB3.trans (hb4.mono hB3.size)
  have ra4 := (ra.below hb4).more hb4.size
  have S := sameWeights_any l Aa Ab cca ccb w4 hl ra4 rb
  clear A2 hb4 hB3 k3 ra g0 g1 g2
  go_wp2_with fail
  refine S.mono ?_
  rintro e w5 ⟨hb5, rfl⟩
  have hB5 := hB4.trans (hb5.mono hB4.size)
  clear S hb5 hB4 ra4 rb
  go_wp2_with fail
  refine (SN.out w5 hB5).mono ?_
  rintro e w6 ⟨hb6, rfl⟩
  have hB6 := hB5.trans (hb6.mono hB5.size)
  clear SN hb6 hB5
  go_wp2
  go_ret
  exact ⟨hB6, rfl⟩
end Go.Proofs.YtaihplgfbepgpaaGreatDoor
