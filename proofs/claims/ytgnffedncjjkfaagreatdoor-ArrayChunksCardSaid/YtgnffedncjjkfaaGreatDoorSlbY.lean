/-
  Words: an append at an operation of a region that draws its order; two operations that may come up; such a region where a function is ranged over. A row of texts of the call's own that is written.
  Walk: slices.Equal of ints.
  Walk: the reference's Slice.
  Walk: package array: Paste. Words: a row of texts of the call's own that is written.
  Walk: package array: Paste, whole.
  Walk: the reference's Paste.
  Walk: the reference's Paste, whole.
-/
import Derived.Test.YtgnffedncjjkfaaGreatDoorArxP
import Derived.Test.YtgnffedncjjkfaaGreatDoorHeldN
import Derived.Sort.CutIn
namespace Go.Proofs.YtgnffedncjjkfaaGreatDoor
open Go.RowKit Ix Ar

theorem step_append_own {P : Program} {w : World} {o : Oper} {a : Act} {K : Act → World → Prop} {Q : Exit → Act → World → Prop} (s x : Operand) (t : TypeId)
    (ho : o.op = .call { callee := .builtin .append, args := #[s, x], argTypes := #[t, t] })
    (base : Nat) (e : TypeId) (i : TypeInfo) (z : Value) (size bytes : Nat) (ht : P.underlying t = some (.slice e)) (hi : P.info? e = some i) (hz : i.zero = some z)
    (hsize : i.size = size) (hby : i.bytes = bytes) (hzs : z.cells.size = size) (hsz : 0 < size)
    (v : Value) (n : Nat) (xs : List Value) (hs : a.eval s = v) (hown : w.ownsRow base e size v n xs)
    (ad : Addr) (m c : Nat) (news : List Value) (hx : a.eval x = .slice (some ad) m c) (hl : news.length = m * size) (hnews : ∀ j u, news[j]? = some u → w.cell? (ad.add j) = some u) (h1 : ∀ u ∈ news, u.oneCell' = true)
    (h63 : n + m ≤ maxLen) (hbytes : (n + m) * bytes ≤ 140737488355328) (hbase : base ≤ w.heap.size)
    (h : ∀ v' w', w'.ownsRow base e size v' (n + m) (xs ++ news) → w.grownBy w' v.ownBlock → K (a.put o.dst v') w') :
    Oper.wp P o a w K Q := by
  obtain ⟨v', w', hr, h2, h3, _, _⟩ := run_append_own_at (P := P) w base t o.type e i z size bytes ht hi hz hsize hby hzs hsz v n xs hown ad m c news hl hnews h1 h63 hbytes hbase
  unfold Oper.wp execOp
  simp only [ho, resolve, invoke, builtin, Sem.run_bind, Sem.run_pure, Result.andThen_ok, List.map_toArray, List.map_cons, List.map_nil, hs, hx, hr]
  exact h v' w' h2 h3

theorem new_str (w : World) (T : TypeId) (x : ByteArray) (j : Nat) (u : Value) (h : [Value.string x][j]? = some u) : (w.alloc (.cells #[.string x] T)).cell? ((⟨w.heap.size, 0, none⟩ : Addr).add j) = some u := by
  have k := (Bk.new w T #[Value.string x]).cell (0 + j)
  rw [addr_mk, k]
  simpa using h
section
variable {P : Program} {md : Region.Mode} {Q : Exit → Act → World → Prop} {S : World → Prop} {l : List Oper} {i j : Nat} {oi oj : Oper} {fuel : Nat} {listed : Array Bool} {a : Act} {w : World}
/-- Two operations may come up. -/
theorem stepA2 (hi : l[i]? = some oi) (hj : l[j]? = some oj) (hr : Region.ready md l.toArray listed = [i, j])
    (h : ∀ K' : Act → World → Prop, Shut (∀ a w, S w → (S w → wpAnyH P md l.toArray Q S fuel (listed.setIfInBounds i true) a w) → K' a w) → if Region.wanted oi (yielded l.toArray a.tmps) = true then Oper.wp P oi a w K' Q else K' (a.put oi.dst undef) w)
    (h' : ∀ K' : Act → World → Prop, Shut (∀ a w, S w → (S w → wpAnyH P md l.toArray Q S fuel (listed.setIfInBounds j true) a w) → K' a w) → if Region.wanted oj (yielded l.toArray a.tmps) = true then Oper.wp P oj a w K' Q else K' (a.put oj.dst undef) w) :
    wpAnyH P md l.toArray Q S (fuel + 1) listed a w :=
  wpAnyH_ready hr (by simp) (AllReadyH.cons (by simpa using hi) h (AllReadyH.cons (by simpa using hj) h' AllReadyH.nil))
theorem stepA3 {k : Nat} {ok : Oper} (hi : l[i]? = some oi) (hj : l[j]? = some oj) (hk : l[k]? = some ok) (hr : Region.ready md l.toArray listed = [i, j, k])
    (h : ∀ K' : Act → World → Prop, Shut (∀ a w, S w → (S w → wpAnyH P md l.toArray Q S fuel (listed.setIfInBounds i true) a w) → K' a w) → if Region.wanted oi (yielded l.toArray a.tmps) = true then Oper.wp P oi a w K' Q else K' (a.put oi.dst undef) w)
    (h' : ∀ K' : Act → World → Prop, Shut (∀ a w, S w → (S w → wpAnyH P md l.toArray Q S fuel (listed.setIfInBounds j true) a w) → K' a w) → if Region.wanted oj (yielded l.toArray a.tmps) = true then Oper.wp P oj a w K' Q else K' (a.put oj.dst undef) w)
    (h'' : ∀ K' : Act → World → Prop, Shut (∀ a w, S w → (S w → wpAnyH P md l.toArray Q S fuel (listed.setIfInBounds k true) a w) → K' a w) → if Region.wanted ok (yielded l.toArray a.tmps) = true then Oper.wp P ok a w K' Q else K' (a.put ok.dst undef) w) :
    wpAnyH P md l.toArray Q S (fuel + 1) listed a w :=
  wpAnyH_ready hr (by simp) (AllReadyH.cons (by simpa using hi) h (AllReadyH.cons (by simpa using hj) h' (AllReadyH.cons (by simpa using hk) h'' AllReadyH.nil)))
end
section
variable {P : Program} {ops : Array Oper} {Q : Exit → Act → World → Prop} {md : Region.Mode} {n : Nat}
theorem wpIn_of_wpW {o : Oper} {a : Act} {w : World} {K : Act → World → Prop} (h : o.wp P a w K Q) : o.wpIn Fence.wide n P a w K Q := by
  refine ⟨fun _ _ => trivial, ?_⟩
  rw [show Fence.wide.round = none from rfl, Oper.semAt_none]
  unfold Oper.wp at h
  generalize (execOp a.eval o).run P w = r at *
  cases r with
  | ok x w' =>
    cases x with
    | value v => exact h
    | skip => exact h
    | defer d => exact h
    | enter f args => exact ⟨fun h => (by cases h), callsIn_wide.2 h⟩
    | row row args => exact ⟨fun h => (by cases h), fun c cs _ => let ⟨v, w', r, s⟩ := h c cs; ⟨v, w', r, stepsIn_wide.2 s⟩⟩
    | _ => exact h.elim
  | halt x w' => cases x <;> exact h
theorem wpOpIn_ofW {i : Nat} {a : Act} {w : World} {K : Act → World → Prop} (hL : ¬ LetsOut Q) (h : wpOp P ops Q i K a w) : wpOpIn Fence.wide n P ops Q i K a w := by
  unfold wpOp at h
  unfold wpOpIn
  cases ho : ops[i]? with
  | none => rw [ho] at h; exact h
  | some o =>
    rw [ho] at h
    simp only at h ⊢
    split
    · rename_i hw
      rw [if_pos hw] at h
      rcases h with h | h
      · exact wpIn_of_wpW h
      · exact absurd h.2 hL
    · rename_i hw
      rw [if_neg hw] at h
      exact ⟨fun _ _ => trivial, h⟩
theorem wpAnyIn_ofW (hL : ¬ LetsOut Q) : ∀ (fuel : Nat) (listed : Array Bool) (a : Act) (w : World), wpAny P md ops Q fuel listed a w → wpAnyIn Fence.wide n P md ops Q fuel listed a w
  | 0, _, _, _, h => h
  | fuel + 1, _, _, _, h => ⟨h.1, fun i hi => wpOpIn_ofW hL (wpOp_mono (fun a' w' h' => wpAnyIn_ofW hL fuel _ a' w' h') (h.2 i hi))⟩
/-- A region that draws its order, at the fence that asks nothing. -/
theorem region_wideH {id : Nat} {l : List Oper} {a : Act} {w : World} (hm : P.follows .mixedOrders = true) (hL : ¬ LetsOut Q) (S : World → Prop) (hS : S w.drew)
    (h : S w.drew → wpAnyH P .any l.toArray Q S l.toArray.size (Array.replicate l.toArray.size false) a w.drew) : (Code.region id l.toArray true).wpIn Fence.wide n P Q a w :=
  wpIn_region_any hm (wpAnyIn_ofW hL _ _ _ _ (wpAny_of_held _ _ _ _ (h hS)))
end
/-- Only the common way out. -/
def onlyN (Q : Exit → Act → World → Prop) : Exit → Act → World → Prop
  | .normal, a, w => Q .normal a w
  | _, _, _ => False
theorem region_wideN {P : Program} {Q : Exit → Act → World → Prop} {n id : Nat} {l : List Oper} {a : Act} {w : World} (hm : P.follows .mixedOrders = true) (S : World → Prop) (hS : S w.drew)
    (h : S w.drew → wpAnyH P .any l.toArray (onlyN Q) S l.toArray.size (Array.replicate l.toArray.size false) a w.drew) : (Code.region id l.toArray true).wpIn Fence.wide n P Q a w :=
  wpIn_mono (region_wideH hm (fun ⟨_, _, h⟩ => h) S hS h) (fun e a w h => by cases e <;> first | exact h | exact False.elim h)
theorem doneN {P : Program} {ops : Array Oper} {Q : Exit → Act → World → Prop} {S : World → Prop} {md : Region.Mode} {listed : Array Bool} {a : Act} {w : World} (hr : Region.ready md ops listed = []) (h : Q .normal a w) (fuel : Nat) : wpAnyH P md ops (onlyN Q) S fuel listed a w := wpAnyH_done (Q := onlyN Q) hr (show onlyN Q .normal a w from h) fuel
/-- A text of a row of the call's own. -/
theorem own_text {w : World} {base : Nat} {T : TypeId} {v : Value} {l : List ByteArray} (h : w.ownsRow base T 1 v l.length (strs l)) {j : Nat} (hj : j < l.length) :
    ∃ g c, v = .slice (some ⟨g, 0, none⟩) l.length c ∧ base ≤ g ∧ w.cell? ⟨g, j, none⟩ = some (.string l[j]) ∧ w.frozen? ⟨g, j, none⟩ = false ∧ ∀ x, (w.setCell ⟨g, j, none⟩ (.string x)).ownsRow base T 1 v l.length (strs (l.set j x)) := by
  rcases h.2 with ⟨rfl, e⟩ | ⟨g, cap, cur, rfl, hbg, hg, hnc, hcm, hcs, htake⟩
  · rw [e] at hj; exact absurd hj (Nat.not_lt_zero _)
  have hb : Bk w g T cur := hg
  have hj2 : j < cur.size := by rw [hcs]; omega
  have hcell : cur[j]? = some (.string l[j]) := by
    have h1 : (cur.toList.take (l.length * 1))[j]? = (strs l)[j]? := by rw [htake]
    rw [List.getElem?_take_of_lt (by omega)] at h1
    rw [Array.getElem?_toList] at h1
    rw [h1]
    simp [strs, List.getElem?_eq_getElem hj]
  refine ⟨g, cap, rfl, hbg, (hb.cell j).trans hcell, hb.frozen j, fun x => ⟨by rw [strs_len, List.length_set, Nat.mul_one], .inr ⟨g, cap, cur.setIfInBounds j (.string x), rfl, hbg, hb.put j _, hnc, hcm, by rw [Array.size_setIfInBounds]; exact hcs, ?_⟩⟩⟩
  have e1 : strs (l.set j x) = (strs l).set j (.string x) := by simp [strs, List.map_set]
  rw [e1, ← htake, Array.toList_setIfInBounds, List.take_set]

set_option maxRecDepth 100000 in
set_option maxHeartbeats 1600000 in
theorem equalz_any (S T : List Int) (A A' : Option Addr) (c c' B B' : Nat) (w : World) (hr : Rd w B A (zints S)) (hr' : Rd w B' A' (zints T)) (hB : B ≤ w.heap.size) (hB' : B' ≤ w.heap.size) (hL : S.length ≤ maxLen) (q : Bool) (hq : q = true ↔ S = T) :
    Calls Tryz.prog 72 #[.slice A S.length c, .slice A' T.length c'] w fun e w' => Below w.heap.size w w' ∧ e = .returned (.bool q) := by
  unfold maxLen at hL
  by_cases hlen : S.length = T.length
  rotate_left
  · have hqf : q = false := bool_no hq fun h => hlen (congrArg List.length h)
    have hne : ((S.length : Int) != (T.length : Int)) = true := by simp; omega
    subst hqf
    clear hq hlen
    go_enter Tryz.func72, Tryz.ntmps72
    go_wp2
    go_ret
    exact ⟨Below.refl _ _, rfl⟩
  have HQ := Lib.hid hq
  have HL := Lib.hid hlen
  rw [← hlen]
  clear hq hlen
  go_enter Tryz.func72, Tryz.ntmps72
  go_wp2_with fail
  go_loopw [13] (fun i wr => ∃ k : Nat, k ≤ S.length ∧ i = .int .i64 k ∧ Hid (∀ j, j < k → S[j]? = T[j]?) ∧ Below w.heap.size w wr) (fun i _ => S.length - (intOf i).toNat)
  case atStart => exact ⟨0, Nat.zero_le _, rfl, (fun j hj => absurd hj (Nat.not_lt_zero _)), Below.refl _ _⟩
  case round =>
    obtain ⟨k, hk, rfl, HT, hb⟩ := hrel
    by_cases hlt : k < S.length
    · obtain ⟨ad, rfl, hab, hx⟩ := (hr.below (hb.mono hB)).zint (j := k) hlt
      obtain ⟨ad', rfl, hab', hy⟩ := (hr'.below (hb.mono hB')).zint (j := k) (by rw [← HL.out]; exact hlt)
      have HN : Hid (S[k] = T[k]'(by rw [← HL.out]; exact hlt) → ∀ j, j < k + 1 → S[j]? = T[j]?) := fun h j hj => by
        rcases Nat.lt_or_ge j k with h1 | h1
        · exact HT.out j h1
        · obtain rfl : j = k := by omega
          rw [List.getElem?_eq_getElem hlt, List.getElem?_eq_getElem (by rw [← HL.out]; exact hlt), h]
      have HE : Hid (S[k] ≠ T[k]'(by rw [← HL.out]; exact hlt) → q = false) := fun h => bool_no HQ.out fun e => h (by subst e; rfl)
      generalize S[k] = x at *
      generalize T[k]'(by rw [← HL.out]; exact hlt) = y at *
      by_cases hxy : x = y
      · subst hxy
        have y1 : (x != x) = false := by simp
        have HOK := Lib.hid (HN.out rfl)
        clear HN HE
        go_wp2_with fail
        go_quiet (fail)
        have hb2 := below_drewN hb nq
        go_wp2
        go_roundw
        case rel => exact ⟨k + 1, by omega, by go_num, HOK.out, hb2⟩
        case measure => simp [intOf]; omega
      · have y1 : (x != y) = true := by simp [hxy]
        have hqf := HE.out hxy
        subst hqf
        clear HN HE
        go_wp2_with fail
        go_quiet (fail)
        go_wp2
        go_ret
        exact ⟨below_drewN hb _, rfl⟩
    · have hqt : q = true := HQ.out.2 (List.ext_getElem? fun j => by
        rcases Nat.lt_or_ge j k with h | h
        · exact HT.out j h
        · rw [List.getElem?_eq_none (by omega), List.getElem?_eq_none (by rw [← HL.out]; omega)])
      subst hqt
      clear HQ HT
      go_wp2
      go_ret
      exact ⟨hb, rfl⟩
end Go.Proofs.YtgnffedncjjkfaaGreatDoor

namespace Go.Proofs.YtgnffedncjjkfaaGreatDoor
open Go.RowKit Ix Ar

set_option maxRecDepth 100000 in
set_option maxHeartbeats 6400000 in
theorem rslice_any (a : Arr) (C : List Cut) (va vk : Value) (w : World) (ha : IsA w w.heap.size va a) (hk : IsK w w.heap.size vk C) (hi : InA a) (hC : ∀ x ∈ C, In64 x) (hL : C.length ≤ maxLen) :
    Calls Tryz.prog 18 #[va, vk] w fun e w' => Below w.heap.size w w' ∧ ∃ v, e = .returned (.tuple #[v, .int .i64 (sliceR a C).2]) ∧ IsA w' w'.heap.size v (sliceR a C).1 := by
  obtain ⟨A, c, A', c', rfl, hc, hc'⟩ := ha.form
  obtain ⟨Ak, ck, rfl, hck⟩ := hk.form
  obtain ⟨i0, hi0, hz0, hz1, hz2⟩ := info_parts Tryz.str_info
  have hha := ha
  obtain ⟨hS, hT⟩ := ha.parts
  obtain ⟨S, V⟩ := a
  simp only at hS hT hc hc'
  obtain ⟨qv, hqv⟩ : ∃ b : Bool, b = true ↔ VA (S, V) := by classical exact ⟨decide _, decide_eq_true_iff⟩
  obtain ⟨qf, hqf⟩ : ∃ b : Bool, b = true ↔ Fit S C := by classical exact ⟨decide _, decide_eq_true_iff⟩
  have VV := Lib.hid (fun W (hW : Below w.heap.size w W) => rarr_any (S, V) (.agg #[.slice A S.length c, .slice A' V.length c']) W (hha.next hW) hi qv hqv)
  have B0 := BxW.start2 w 25 25 #[.slice A S.length c, .slice A' V.length c'] #[.slice none 0 0, .slice none 0 0]
  have i1 := hi.shape
  have i2 := hi.vals
  simp only at i2
  cases hv : qv
  · have hna : ¬ VA (S, V) := fun h => by rw [hqv.2 h] at hv; cases hv
    rw [sliceR_shape hna]
    subst hv
    clear hqv hqf hna ha hha hk hS hT hi
    go_enter Tryz.func18, Tryz.ntmps18
    go_wp2_with fail
    generalize ((w.alloc (.cells #[.slice A S.length c, .slice A' V.length c'] 25)).alloc (.cells #[.slice none 0 0, .slice none 0 0] 25)) = W0 at *
    refine (VV.out W0 B0.below).mono ?_
    rintro e w1 ⟨hb1, rfl⟩
    have B1 := B0.next hb1
    obtain ⟨d0, d1⟩ := bkA B1.two
    have f0 := B1.two.frozen 0
    have f1 := B1.two.frozen 1
    go_wp2
    refine bodyPost_ret (v := .tuple #[.agg #[.slice none 0 0, .slice none 0 0], .int .i64 60]) (by simp [results, Tryz.results18, go_sem, d0, d1]) rfl ?_
    exact ⟨(B1.below.setCell (p := ⟨w.heap.size + 1, 0, none⟩) (by simp) _).setCell (p := ⟨w.heap.size + 1, 1, none⟩) (by simp) _, _, rfl, IsA.zero _ _⟩
  have hva := hqv.1 hv
  subst hv
  have hVS : VS S := hva.1
  have hl : V.length = Ix.prod (S.map Int.toNat) := hva.2.1
  have FF := Lib.hid (fun W (hW : Below w.heap.size w W) => rfits_any C S Ak A ck c W ((hk.below hW).more hW.size).rd ((hS.below hW).more hW.size).rd hVS.2.1 hC hL qf hqf)
  cases hf : qf
  · have hnf : ¬ Fit S C := fun h => by rw [hqf.2 h] at hf; cases hf
    rw [sliceR_slab hva hnf]
    subst hf
    clear hqv hqf hnf hva hVS hl ha hha hk hS hT hi
    go_enter Tryz.func18, Tryz.ntmps18
    go_wp2_with fail
    generalize ((w.alloc (.cells #[.slice A S.length c, .slice A' V.length c'] 25)).alloc (.cells #[.slice none 0 0, .slice none 0 0] 25)) = W0 at *
    refine (VV.out W0 B0.below).mono ?_
    rintro e w1 ⟨hb1, rfl⟩
    have B1 := B0.next hb1
    obtain ⟨b0, b1⟩ := bkA B1.one
    go_wp2_with fail
    refine (FF.out w1 B1.below).mono ?_
    rintro e w2 ⟨hb2, rfl⟩
    have B2 := B1.next hb2
    obtain ⟨d0, d1⟩ := bkA B2.two
    have f0 := B2.two.frozen 0
    have f1 := B2.two.frozen 1
    clear b0 b1
    go_wp2
    refine bodyPost_ret (v := .tuple #[.agg #[.slice none 0 0, .slice none 0 0], .int .i64 61]) (by simp [results, Tryz.results18, go_sem, d0, d1]) rfl ?_
    exact ⟨(B2.below.setCell (p := ⟨w.heap.size + 1, 0, none⟩) (by simp) _).setCell (p := ⟨w.heap.size + 1, 1, none⟩) (by simp) _, _, rfl, IsA.zero _ _⟩
  have hF := hqf.1 hf
  rw [sliceR_ok hva hF]
  subst hf
  have hCV := fit_VS hVS hF
  have hlC := fit_len hF
  have hS4 := hVS.1
  obtain ⟨N, hN⟩ : ∃ N, N = Ix.prod (cnt C) := ⟨_, rfl⟩
  have hN2 : N ≤ 4096 := by rw [hN, ← cntI_nat]; exact hCV.2.2
  obtain ⟨f, hf⟩ : ∃ f, f = fun k => V.getD (place (S.map Int.toNat) (thr C (idx (cnt C) k))) ⟨#[]⟩ := ⟨_, rfl⟩
  have htab : cutOut (S.map Int.toNat) C V ⟨#[]⟩ = (List.range N).map f := by rw [hN, hf]; rfl
  simp only
  rw [htab]
  have hzc : zints (cntI C) = ints .i64 (cnt C) := by rw [hCV.cells, cntI_nat]
  have hsz : Sz4 (cnt C) := by have := hCV.sz; rwa [cntI_nat] at this
  have hcl : (cnt C).length = C.length := by unfold cnt; rw [List.length_map]
  have CN := Lib.hid (fun W (hW : Below w.heap.size w W) => rcounts_any C Ak ck W ((hk.below hW).more hW.size).rd (by omega))
  have CC := Lib.hid (fun (W : World) (g : Nat) (hg : Bk W g 3 (zints (cntI C)).toArray) => rcount_any (cnt C) (some ⟨g, 0, none⟩) C.length W.heap.size W hsz (by rw [← hzc]; simpa using hg.rd))
  rw [hcl, ← hN] at CC
  have IX := Lib.hid (fun (W : World) (g : Nat) (hg : Bk W g 3 (zints (cntI C)).toArray) (k : Nat) (hk : k < N) => rindex_any (cnt C) k (some ⟨g, 0, none⟩) C.length W hsz (by rw [← hN]; exact hk) (by rw [← hzc]; simpa using hg.rd))
  rw [hcl] at IX
  have HIN : Hid (∀ k, k < N → Inside (cnt C) (idx (cnt C) k)) := fun k hk => idx_inside _ k (by rw [← hN]; exact hk)
  have HIL : Hid (∀ k, (idx (cnt C) k).length = C.length) := fun k => by rw [idx_len, hcl]
  have TH := Lib.hid (fun (W : World) (hW : Below w.heap.size w W) (X k : Nat) (hk2 : k < N) (hX : Bk W X 3 (ints .i64 (idx (cnt C) k)).toArray) => rthrough_any C S (idx (cnt C) k) Ak (some ⟨X, 0, none⟩) ck C.length W ((hk.below hW).more hW.size).rd (by simpa using hX.rd) hF hVS.2.1 (HIN.out k hk2) (by omega) hC)
  have PL := Lib.hid (fun (k : Nat) (hk2 : k < N) (X : Nat) (W : World) (hW : Below w.heap.size w W) (hX : Bk W X 3 (ints .i64 (thr C (idx (cnt C) k))).toArray) => show Calls Tryz.prog 69 #[.slice A S.length c, .slice (some ⟨X, 0, none⟩) C.length C.length] W fun e w' => Below W.heap.size W w' ∧ e = .returned (.int .i64 (place (S.map Int.toNat) (thr C (idx (cnt C) k)) : Nat)) from by
    have h := rplace_any (S.map Int.toNat) (thr C (idx (cnt C) k)) A (some ⟨X, 0, none⟩) c C.length w.heap.size W.heap.size W hVS.sz (thr_inside hF (HIN.out k hk2)) (by rw [← hVS.cells]; exact hS.rd.below hW) (by simpa using hX.rd) hW.size (Nat.le_refl _)
    rw [List.length_map, show Value.slice (some ⟨X, 0, none⟩) S.length C.length = .slice (some ⟨X, 0, none⟩) C.length C.length from by rw [hlC]] at h
    exact h)
  have HV := Lib.hid (fun (k : Nat) (hk2 : k < N) => show ∃ ad, A' = some ad ∧ ad.block < w.heap.size ∧ place (S.map Int.toNat) (thr C (idx (cnt C) k)) < V.length ∧ w.cell? (ad.add (place (S.map Int.toNat) (thr C (idx (cnt C) k)))) = some (.string (f k)) from by
    have hmV : place (S.map Int.toNat) (thr C (idx (cnt C) k)) < V.length := by rw [hl]; exact place_lt _ _ (thr_inside hF (HIN.out k hk2))
    obtain ⟨ad, e1, e2, e3⟩ := hT.rd.str hmV
    exact ⟨ad, e1, e2, hmV, by rw [hf]; show _ = some (Value.string (V.getD _ _)); rw [List.getD_eq_getElem?_getD, List.getElem?_eq_getElem hmV]; exact e3⟩)
  have HCL : Hid ((cntI C).length = C.length) := cntI_len C
  have hC4 : C.length ≤ 4 := by omega
  clear hqv hqf ha hha hk hS hT hi hva hVS hl hF hCV hf htab hN hzc hsz hcl hlC HIN
  go_enter Tryz.func18, Tryz.ntmps18
  go_wp2_with fail
  generalize ((w.alloc (.cells #[.slice A S.length c, .slice A' V.length c'] 25)).alloc (.cells #[.slice none 0 0, .slice none 0 0] 25)) = W0 at *
  refine (VV.out W0 B0.below).mono ?_
  rintro e w1 ⟨hb1, rfl⟩
  have B1 := B0.next hb1
  obtain ⟨b0, b1⟩ := bkA B1.one
  go_wp2_with fail
  refine (FF.out w1 B1.below).mono ?_
  rintro e w2 ⟨hb2, rfl⟩
  have B2 := B1.next hb2
  clear b0 b1
  go_wp2_with fail
  refine (CN.out w2 B2.below).mono ?_
  rintro e w3 ⟨hb3, rfl, hg3⟩
  have B3 := B2.next hb3
  have hb4 := below_alloc w3 (.cells #[.slice (some ⟨w2.heap.size, 0, none⟩) C.length C.length, .slice none 0 0] 25)
  have hg4 := hg3.next' hb4
  have B4 := B3.next hb4
  have l1 := B3.one.lt
  have l2 := B3.two.lt
  have l3 := hg3.lt
  have hI3 : IsI (w3.alloc (.cells #[.slice (some ⟨w2.heap.size, 0, none⟩) C.length C.length, .slice none 0 0] 25)) (w3.alloc (.cells #[.slice (some ⟨w2.heap.size, 0, none⟩) C.length C.length, .slice none 0 0] 25)).heap.size (.slice (some ⟨w2.heap.size, 0, none⟩) C.length C.length) (cntI C) := by
    have := IsI.of_bk hg4
    rwa [HCL.out] at this
  have M0 := AppAt.start (w := w) (ob := w3.heap.size) (ks := [(w.heap.size, 25, #[.slice A S.length c, .slice A' V.length c']), (w.heap.size + 1, 25, #[.slice none 0 0, .slice none 0 0]), (w2.heap.size, 3, (zints (cntI C)).toArray)]) B4.below (fun p hp => by
    simp at hp
    rcases hp with rfl | rfl | rfl
    · exact B4.one
    · exact B4.two
    · exact hg4) (Bk.new w3 25 #[Value.slice (some ⟨w2.heap.size, 0, none⟩) C.length C.length, .slice none 0 0]) hI3 B3.below.size (fun p hp => by
    simp at hp
    rcases hp with rfl | rfl | rfl
    · show w.heap.size ≠ w3.heap.size; simp only at l1; omega
    · show w.heap.size + 1 ≠ w3.heap.size; simp only at l2; omega
    · show w2.heap.size ≠ w3.heap.size; omega)
  clear hI3 hg3 hg4 hb4 hb3 hb2 hb1 B0 B1 B2 B3 B4 VV FF CN HCL l3
  go_wp2_with fail
  generalize w3.alloc (.cells #[.slice (some ⟨w2.heap.size, 0, none⟩) C.length C.length, .slice none 0 0] 25) = w4 at *
  generalize w2.heap.size = g2 at *
  generalize w3.heap.size = ob at *
  go_loopw [7] (fun i wr => ∃ (k : Nat) (x : Value), k ≤ N ∧ i = .int .i64 k ∧ AppAt w w4.heap.size ob [(w.heap.size, 25, #[.slice A S.length c, .slice A' V.length c']), (w.heap.size + 1, 25, #[.slice none 0 0, .slice none 0 0]), (g2, 3, (zints (cntI C)).toArray)] (.slice (some ⟨g2, 0, none⟩) C.length C.length) (cntI C) x ((List.range k).map f) wr) (fun i _ => N - (intOf i).toNat)
  case atStart => exact ⟨0, _, Nat.zero_le _, rfl, M0⟩
  case round =>
    clear M0
    obtain ⟨k, x, hk, rfl, M⟩ := hrel
    obtain ⟨xA, xc, rfl⟩ := own_formV M.own
    rw [map_len] at M
    have KG := M.keep (g2, 3, (zints (cntI C)).toArray) (by simp)
    obtain ⟨b0, b1⟩ := bkA M.box
    go_wp2_with fail
    refine (CC.out wr g2 KG).mono ?_
    rintro e w' ⟨rfl, rfl⟩
    by_cases hlt : k < N
    · obtain ⟨ad, rfl, hab, hmV, hcv⟩ := HV.out k hlt
      have KA := M.keep (w.heap.size, 25, #[.slice A S.length c, .slice (some ad) V.length c']) (by simp)
      obtain ⟨a0, a1⟩ := bkA KA
      have PLK := Lib.hid (PL.out k hlt)
      have i1' : (0 : Int) ≤ ((place (S.map Int.toNat) (thr C (idx (cnt C) k)) : Nat) : Int) := by omega
      have i2' : ((place (S.map Int.toNat) (thr C (idx (cnt C) k)) : Nat) : Int) < (V.length : Int) := by omega
      generalize place (S.map Int.toNat) (thr C (idx (cnt C) k)) = m at *
      have hcvr := (M.below.cell (p := ad.add m) (by rw [addr_block]; exact hab)).trans hcv
      generalize hfx : f k = x at *
      have HFK := Lib.hid hfx
      clear hfx
      go_wp2_with fail
      refine wp_region_M 18 (by kernel_rfl) (fun Y => ((Y.cell? ⟨ob, 0, none⟩ = some (.slice (some ⟨g2, 0, none⟩) C.length C.length) ∧ Y.cell? ⟨ob, 1, none⟩ = some (.slice xA k xc)) ∧ (Y.cell? ⟨w.heap.size, 0, none⟩ = some (.slice A S.length c) ∧ Y.cell? ⟨w.heap.size, 1, none⟩ = some (.slice (some ad) V.length c'))) ∧ Y.cell? (ad.add m) = some (.string x)) ⟨⟨⟨b0, b1⟩, ⟨a0, a1⟩⟩, hcvr⟩ (fun hS0 => ?_)
      clear b0 b1 a0 a1 hcvr KA KG
      have Md := M.drew
      clear M
      refine takeM (i := 0) (v := ?_) rfl (by kernel_rfl) (by decide) (by kernel_rfl) (by kernel_rfl) (by kernel_rfl) (fun _ _ _ h => h) (by rfl) (by assumption) ?_ ?_
      rotate_left
      · intro w hSw; (try dsimp only at hSw); go_simp <;> with_reducible rfl
      try simp only [Act.put, List.setIfInBounds_toArray, List.set_cons_zero, List.set_cons_succ]
      refine takeM (i := 1) (v := ?_) rfl (by kernel_rfl) (by decide) (by kernel_rfl) (by kernel_rfl) (by kernel_rfl) (fun _ _ _ h => h) (by rfl) (by assumption) ?_ ?_
      rotate_left
      · intro w hSw; (try dsimp only at hSw); go_simp <;> with_reducible rfl
      try simp only [Act.put, List.setIfInBounds_toArray, List.set_cons_zero, List.set_cons_succ]
      refine takeM (i := 2) (v := ?_) rfl (by kernel_rfl) (by decide) (by kernel_rfl) (by kernel_rfl) (by kernel_rfl) (fun _ _ _ h => h) (by rfl) (by assumption) ?_ ?_
      rotate_left
      · intro w hSw; (try dsimp only at hSw); go_simp <;> with_reducible rfl
      try simp only [Act.put, List.setIfInBounds_toArray, List.set_cons_zero, List.set_cons_succ]
      refine takeM (i := 3) (v := ?_) rfl (by kernel_rfl) (by decide) (by kernel_rfl) (by kernel_rfl) (by kernel_rfl) (fun _ _ _ h => h) (by rfl) (by assumption) ?_ ?_
      rotate_left
      · intro w hSw; (try dsimp only at hSw); go_simp <;> with_reducible rfl
      try simp only [Act.put, List.setIfInBounds_toArray, List.set_cons_zero, List.set_cons_succ]
      refine takeM (i := 4) (v := ?_) rfl (by kernel_rfl) (by decide) (by kernel_rfl) (by kernel_rfl) (by kernel_rfl) (fun _ _ _ h => h) (by rfl) (by assumption) ?_ ?_
      rotate_left
      · intro w hSw; (try dsimp only at hSw); go_simp <;> with_reducible rfl
      try simp only [Act.put, List.setIfInBounds_toArray, List.set_cons_zero, List.set_cons_succ]
      refine takeM (i := 5) (v := ?_) rfl (by kernel_rfl) (by decide) (by kernel_rfl) (by kernel_rfl) (by kernel_rfl) (fun _ _ _ h => h) (by rfl) (by assumption) ?_ ?_
      rotate_left
      · intro w hSw; (try dsimp only at hSw); go_simp <;> with_reducible rfl
      try simp only [Act.put, List.setIfInBounds_toArray, List.set_cons_zero, List.set_cons_succ]
      refine takeM (i := 6) (v := ?_) rfl (by kernel_rfl) (by decide) (by kernel_rfl) (by kernel_rfl) (by kernel_rfl) (fun _ _ _ h => h) (by rfl) (by assumption) ?_ ?_
      rotate_left
      · intro w hSw; (try dsimp only at hSw); go_simp <;> with_reducible rfl
      try simp only [Act.put, List.setIfInBounds_toArray, List.set_cons_zero, List.set_cons_succ]
      refine takeM (i := 7) (v := ?_) rfl (by kernel_rfl) (by decide) (by kernel_rfl) (by kernel_rfl) (by kernel_rfl) (fun _ _ _ h => h) (by rfl) (by assumption) ?_ ?_
      rotate_left
      · intro w hSw; (try dsimp only at hSw); go_simp <;> with_reducible rfl
      try simp only [Act.put, List.setIfInBounds_toArray, List.set_cons_zero, List.set_cons_succ]
      refine takeM (i := 8) (v := ?_) rfl (by kernel_rfl) (by decide) (by kernel_rfl) (by kernel_rfl) (by kernel_rfl) (fun _ _ _ h => h) (by rfl) (by assumption) ?_ ?_
      rotate_left
      · intro w hSw; (try dsimp only at hSw); go_simp <;> with_reducible rfl
      try simp only [Act.put, List.setIfInBounds_toArray, List.set_cons_zero, List.set_cons_succ]
      refine takeM (i := 9) (v := ?_) rfl (by kernel_rfl) (by decide) (by kernel_rfl) (by kernel_rfl) (by kernel_rfl) (fun _ _ _ h => h) (by rfl) (by assumption) ?_ ?_
      rotate_left
      · intro w hSw; (try dsimp only at hSw); go_simp <;> with_reducible rfl
      try simp only [Act.put, List.setIfInBounds_toArray, List.set_cons_zero, List.set_cons_succ]
      clear hS0
      refine stepM (i := 10) rfl (by kernel_rfl) (fun K0 hK0 => ?_)
      go_simp
      refine (IX.out wr.drew g2 (Md.keep (g2, 3, (zints (cntI C)).toArray) (by simp)) k hlt).mono ?_
      rintro e w5 ⟨hb5, rfl, hX5⟩
      have M5 := Md.next hb5
      have KA := M5.keep (w.heap.size, 25, #[.slice A S.length c, .slice (some ad) V.length c']) (by simp)
      dsimp only
      refine hK0.out _ _ (fun _ => ⟨⟨bkA M5.box, bkA KA⟩, (M5.below.cell (p := ad.add m) (by rw [addr_block]; exact hab)).trans hcv⟩) (fun _ => ?_)
      clear hK0 K0 Md hb5 KA
      try simp only [Act.put, List.setIfInBounds_toArray, List.set_cons_zero, List.set_cons_succ]
      have T5 := Lib.hid (TH.out w5 M5.below wr.drew.heap.size k hlt hX5)
      rw [HIL.out k] at T5
      clear hX5
      refine stepM (i := 11) rfl (by kernel_rfl) (fun K0 hK0 => ?_)
      go_simp
      refine T5.out.mono ?_
      rintro e w6 ⟨hb6, rfl, hX6⟩
      have M6 := M5.next hb6
      have KA := M6.keep (w.heap.size, 25, #[.slice A S.length c, .slice (some ad) V.length c']) (by simp)
      dsimp only
      refine hK0.out _ _ (fun _ => ⟨⟨bkA M6.box, bkA KA⟩, (M6.below.cell (p := ad.add m) (by rw [addr_block]; exact hab)).trans hcv⟩) (fun _ => ?_)
      clear hK0 K0 M5 hb6 KA T5
      try simp only [Act.put, List.setIfInBounds_toArray, List.set_cons_zero, List.set_cons_succ]
      have P6 := Lib.hid (PLK.out w5.heap.size w6 M6.below hX6)
      clear hX6
      refine stepM (i := 12) rfl (by kernel_rfl) (fun K0 hK0 => ?_)
      go_simp
      refine P6.out.mono ?_
      rintro e w7 ⟨hb7, rfl⟩
      have M7 := M6.next hb7
      have KA := M7.keep (w.heap.size, 25, #[.slice A S.length c, .slice (some ad) V.length c']) (by simp)
      have hS7 := And.intro (And.intro (bkA M7.box) (bkA KA)) ((M7.below.cell (p := ad.add m) (by rw [addr_block]; exact hab)).trans hcv)
      dsimp only
      refine hK0.out _ _ (fun _ => hS7) (fun _ => ?_)
      clear hK0 K0 M6 hb7 KA P6
      try simp only [Act.put, List.setIfInBounds_toArray, List.set_cons_zero, List.set_cons_succ]
      refine takeM (i := 13) (v := ?_) rfl (by kernel_rfl) (by decide) (by kernel_rfl) (by kernel_rfl) (by kernel_rfl) (fun _ _ _ h => h) (by rfl) (by assumption) ?_ ?_
      rotate_left
      · intro w hSw; (try dsimp only at hSw); go_simp <;> with_reducible rfl
      try simp only [Act.put, List.setIfInBounds_toArray, List.set_cons_zero, List.set_cons_succ]
      refine takeM (i := 14) (v := ?_) rfl (by kernel_rfl) (by decide) (by kernel_rfl) (by kernel_rfl) (by kernel_rfl) (fun _ _ _ h => h) (by rfl) (by assumption) ?_ ?_
      rotate_left
      · intro w hSw; (try dsimp only at hSw); go_simp <;> with_reducible rfl
      try simp only [Act.put, List.setIfInBounds_toArray, List.set_cons_zero, List.set_cons_succ]
      clear hS7
      have MA := M7.alloc (.cells #[.string x] 9)
      have KA := MA.keep (w.heap.size, 25, #[.slice A S.length c, .slice (some ad) V.length c']) (by simp)
      have hS8 := And.intro (And.intro (bkA MA.box) (bkA KA)) ((MA.below.cell (p := ad.add m) (by rw [addr_block]; exact hab)).trans hcv)
      refine stepM (i := 15) rfl (by kernel_rfl) (fun K0 hK0 => ?_)
      go_simp
      refine hK0.out _ _ (fun _ => hS8) (fun _ => ?_)
      clear hK0 K0 hS8 KA
      try simp only [Act.put, List.setIfInBounds_toArray, List.set_cons_zero, List.set_cons_succ]
      have hown0 := MA.own
      rw [map_len] at hown0
      refine stepM (i := 16) rfl (by kernel_rfl) (fun K0 hK0 => ?_)
      rw [if_pos (by rfl)]
      refine step_append_own (.tmp 29) (.tmp 43) 23 rfl w4.heap.size 9 i0 (.string ⟨#[]⟩) 1 16 Tryz.underlying23 hi0 hz0 hz1 hz2 rfl (by omega) (.slice xA k xc) k _ (by rfl) hown0 ⟨w7.heap.size, 0, none⟩ 1 1 [.string x] (by rfl) (by rfl) (new_str w7 _ x) (strs_one [x]) (by unfold maxLen; omega) (by omega) MA.size ?_
      intro v1 w8 hown1 hg1
      obtain ⟨vA, vc, rfl⟩ := own_formV hown1
      have MM := MA.app (x := x) (by rw [map_len]; exact hown1) hg1
      clear hown1 hg1 hown0 MA M7
      obtain ⟨g0, g1, gf⟩ := MM.facts
      have KA := MM.keep (w.heap.size, 25, #[.slice A S.length c, .slice (some ad) V.length c']) (by simp)
      have hS9 := And.intro (And.intro (And.intro g0 g1) (bkA KA)) ((MM.below.cell (p := ad.add m) (by rw [addr_block]; exact hab)).trans hcv)
      dsimp only
      refine hK0.out _ _ (fun _ => hS9) (fun _ => ?_)
      clear hK0 K0 KA
      try simp only [Act.put, List.setIfInBounds_toArray, List.set_cons_zero, List.set_cons_succ]
      refine takeM (i := 17) (v := ?_) rfl (by kernel_rfl) (by decide) (by kernel_rfl) (by kernel_rfl) (by kernel_rfl) (fun _ _ _ h => h) (by rfl) (by assumption) ?_ ?_
      rotate_left
      · intro w hSw; (try dsimp only at hSw); go_simp <;> with_reducible rfl
      try simp only [Act.put, List.setIfInBounds_toArray, List.set_cons_zero, List.set_cons_succ]
      clear hS9
      refine stepM (i := 18) rfl (by kernel_rfl) (fun K0 hK0 => ?_)
      go_simp
      refine hK0.out _ _ (fun h => absurd rfl h) (fun _ => ?_)
      clear hK0 K0
      try simp only [Act.put, List.setIfInBounds_toArray, List.set_cons_zero, List.set_cons_succ]
      refine doneM (by kernel_rfl) ?_ _
      have MP := MM.put
      have e1 : (List.range k).map f ++ [x] = (List.range (k + 1)).map f := by rw [map_snoc, HFK.out]
      rw [e1] at MP
      clear MM g0 g1 gf hcv
      go_wp2
      go_roundw
      case rel => exact ⟨k + 1, _, by omega, by go_num, MP⟩
      case measure => simp [intOf]; omega
    · obtain rfl : k = N := by omega
      have KR := M.keep (w.heap.size + 1, 25, #[.slice none 0 0, .slice none 0 0]) (by simp)
      obtain ⟨d0, d1⟩ := bkA KR
      have f0 := KR.frozen 0
      have f1 := KR.frozen 1
      have hA := M.isA
      have hb := M.below
      go_wp2
      refine bodyPost_ret (v := .tuple #[.agg #[.slice (some ⟨g2, 0, none⟩) C.length C.length, .slice xA k xc], .int .i64 0]) (by simp [results, Tryz.results18, go_sem, d0, d1]) rfl ?_
      exact ⟨(hb.setCell (p := ⟨w.heap.size + 1, 0, none⟩) (by simp) _).setCell (p := ⟨w.heap.size + 1, 1, none⟩) (by simp) _, _, rfl, hA.ret d0 d1 _ _⟩
end Go.Proofs.YtgnffedncjjkfaaGreatDoor

namespace Go.Proofs.YtgnffedncjjkfaaGreatDoor
open Go.RowKit Ix Ar
attribute [local go_sem] Oper.semAt_some

/-- Known blocks, a shape, and a row of texts of the call's own. -/
structure PsAt (w : World) (lo base : Nat) (ks : List Bx) (sv vv : Value) (S : List Int) (l : List ByteArray) (W : World) : Prop where
  below : Below w.heap.size w W
  keep : ∀ p ∈ ks, Bk W p.1 p.2.1 p.2.2
  own : W.ownsRow base 9 1 vv l.length (strs l)
  shape : IsI W lo sv S
  size : lo ≤ W.heap.size
  wlo : w.heap.size ≤ lo
  wbase : w.heap.size ≤ base
  lt : ∀ p ∈ ks, p.1 < lo
  olt : ∀ g, vv.ownBlock = some g → g < lo ∧ ∀ p ∈ ks, p.1 ≠ g
section
variable {w W W' : World} {lo base : Nat} {ks : List Bx} {sv vv : Value} {S : List Int} {l : List ByteArray}
theorem PsAt.grown (h : PsAt w lo base ks sv vv S l W) {row : Option Nat} (hg : W.grownBy W' row) (hr : ∀ r, row = some r → lo ≤ r) : PsAt w lo base ks sv vv S l W' := by
  have far : ∀ j : Nat, j < lo → some j ≠ row := fun j hj e => by have := hr j e.symm; omega
  refine ⟨h.below.grown hg h.below.size (fun r e => Nat.le_trans h.wlo (hr r e)), fun p hp => (h.keep p hp).grown hg (far _ (h.lt p hp)), h.own.kept hg ?_, ?_, Nat.le_trans h.size hg.size, h.wlo, h.wbase, h.lt, h.olt⟩
  · cases e : vv.ownBlock with
    | none => exact .inl rfl
    | some g => exact .inr (far g (h.olt g e).1)
  · obtain ⟨A, c, e, h1, h3⟩ := h.shape
    exact ⟨A, c, e, h1, h3.grown hg h.size hr⟩
theorem PsAt.next (h : PsAt w lo base ks sv vv S l W) (hb : Below W.heap.size W W') : PsAt w lo base ks sv vv S l W' := h.grown (grown_of_below hb none) (fun r e => by cases e)
theorem PsAt.drew (h : PsAt w lo base ks sv vv S l W) : PsAt w lo base ks sv vv S l W.drew := ⟨h.below.drew, h.keep, h.own, h.shape, h.size, h.wlo, h.wbase, h.lt, h.olt⟩
theorem PsAt.add (h : PsAt w lo base ks sv vv S l W) (ps : List Bx) (hp : ∀ p ∈ ps, Bk W p.1 p.2.1 p.2.2) (hne : ∀ p ∈ ps, lo ≤ p.1) : PsAt w W.heap.size base (ks ++ ps) sv vv S l W := by
  refine ⟨h.below, fun q hq => ?_, h.own, h.shape.more h.size, Nat.le_refl _, h.below.size, h.wbase, fun q hq => ?_, fun g e => ⟨Nat.lt_of_lt_of_le (h.olt g e).1 h.size, fun q hq => ?_⟩⟩
  · rcases List.mem_append.1 hq with h1 | h1
    · exact h.keep q h1
    · exact hp q h1
  · rcases List.mem_append.1 hq with h1 | h1
    · exact Nat.lt_of_lt_of_le (h.lt q h1) h.size
    · exact (hp q h1).lt
  · rcases List.mem_append.1 hq with h1 | h1
    · exact (h.olt g e).2 q h1
    · have := (h.olt g e).1; have := hne q h1; omega
theorem PsAt.set (h : PsAt w lo base ks sv vv S l W) {j : Nat} (hj : j < l.length) : ∃ g c, vv = .slice (some ⟨g, 0, none⟩) l.length c ∧ g < lo ∧ w.heap.size ≤ g ∧ (∀ p ∈ ks, p.1 ≠ g) ∧ W.cell? ⟨g, j, none⟩ = some (.string l[j]) ∧ W.frozen? ⟨g, j, none⟩ = false ∧ ∀ x, PsAt w lo base ks sv vv S (l.set j x) (W.setCell ⟨g, j, none⟩ (.string x)) := by
  obtain ⟨g, c, e, hg, h1, h2, h3⟩ := own_text h.own hj
  have ho := h.olt g (by rw [e]; rfl)
  refine ⟨g, c, e, ho.1, Nat.le_trans h.wbase hg, ho.2, h1, h2, fun x => ⟨h.below.setCell (p := ⟨g, j, none⟩) (Nat.le_trans h.wbase hg) _, fun p hp => (h.keep p hp).far (ho.2 p hp) _, ?_, ?_, by rw [sz_setCell]; exact h.size, h.wlo, h.wbase, h.lt, h.olt⟩⟩
  · rw [List.length_set]; exact h3 x
  · obtain ⟨A, c', e', k1, k3⟩ := h.shape
    exact ⟨A, c', e', k1, k3.put_out h1 (by simp [zints]) _⟩
theorem PsAt.isA (h : PsAt w lo base ks sv vv S l W) : IsA W W.heap.size (.agg #[sv, vv]) (S, l) := ⟨_, _, rfl, h.shape.more h.size, IsT.of_own h.own⟩
theorem IsA.own {B : Nat} {v : Value} {a : Arr} (h : IsA W B v a) {row : Option Nat} (hg : W.grownBy W' row) (hr : ∀ r, row = some r → ∃ o : Obj, W.heap[r]? = some o ∧ o.isCells = false) : IsA W' B v a := by
  obtain ⟨s, t, e, ⟨A1, c1, e1, l1, r1⟩, ⟨A2, c2, e2, l2, r2⟩⟩ := h
  exact ⟨s, t, e, ⟨A1, c1, e1, l1, r1.own hg hr⟩, ⟨A2, c2, e2, l2, r2.own hg hr⟩⟩
theorem PsAt.make {ob : Nat} {V : List ByteArray} (B : BxW w ks W) (kb : Bk W ob 25 #[.slice none 0 0, .slice none 0 0]) (hI : IsI W W.heap.size sv S) (own : W.ownsRow base 9 1 vv V.length (strs V)) (hbase : w.heap.size ≤ base)
    (hk : ∀ p ∈ ks, p.1 < base) (hk2 : ∀ p ∈ ks, p.1 < ob) (ho : ob < base ∨ ∀ g, vv.ownBlock = some g → g < ob) (hob : w.heap.size ≤ ob) :
    PsAt w ((W.setCell ⟨ob, 0, none⟩ sv).setCell ⟨ob, 1, none⟩ vv).heap.size base (ks ++ [(ob, 25, #[sv, vv])]) sv vv S V ((W.setCell ⟨ob, 0, none⟩ sv).setCell ⟨ob, 1, none⟩ vv) := by
  have e0 : ((W.setCell ⟨ob, 0, none⟩ sv).setCell ⟨ob, 1, none⟩ vv).heap.size = W.heap.size := by rw [sz_setCell, sz_setCell]
  rw [e0]
  have hne : ∀ g, vv.ownBlock = some g → g ≠ ob := fun g e => by
    have := (own.lt g e).1
    rcases ho with h | h
    · omega
    · have := h g e; omega
  obtain ⟨d0, d1⟩ := bkA kb
  have k1 := (kb.put 0 sv).put 1 vv
  refine ⟨(B.below.setCell (p := ⟨ob, 0, none⟩) hob _).setCell (p := ⟨ob, 1, none⟩) hob _, fun q hq => ?_, OwnsRow_far (OwnsRow_far own (fun e => hne ob e rfl) _) (fun e => hne ob e rfl) _, ?_, by rw [sz_setCell, sz_setCell]; exact Nat.le_refl _, B.below.size, hbase, fun q hq => ?_, fun g e => ⟨(own.lt g e).2, fun q hq => ?_⟩⟩
  · rcases List.mem_append.1 hq with h1 | h1
    · exact ((B.keep q h1).far (by have := hk2 q h1; show q.1 ≠ ob; omega) _).far (by have := hk2 q h1; show q.1 ≠ ob; omega) _
    · simp at h1; subst h1; simpa using k1
  · obtain ⟨A, c, e, l1, r1⟩ := hI
    exact ⟨A, c, e, l1, (r1.put_out d0 (slice_out _ _ _ _) _).put_out ((World.cell?_setCell_other W ⟨ob, 0, none⟩ ⟨ob, 1, none⟩ _ (fun e => by cases e)).trans d1) (slice_out _ _ _ _) _⟩
  · rcases List.mem_append.1 hq with h1 | h1
    · exact (B.keep q h1).lt
    · simp at h1; subst h1; exact kb.lt
  · rcases List.mem_append.1 hq with h1 | h1
    · have := (own.lt g e).1; have := hk q h1; omega
    · simp at h1; subst h1; exact fun e2 => hne g e e2.symm
end

set_option maxRecDepth 100000 in
set_option maxHeartbeats 12800000 in
theorem paste_good (S : List Int) (V U : List ByteArray) (C : List Cut) (A A' Ak Ab Ab' : Option Addr) (c c' ck cb cb' : Nat) (w : World) (ha : IsA w w.heap.size (.agg #[.slice A S.length c, .slice A' V.length c']) (S, V)) (hk : IsK w w.heap.size (.slice Ak C.length ck) C)
    (hb : IsA w w.heap.size (.agg #[.slice Ab (cntI C).length cb, .slice Ab' U.length cb']) (cntI C, U)) (hia : InA (S, V)) (hib : InA (cntI C, U)) (hC : ∀ x ∈ C, In64 x) (he : Env w) (va : VA (S, V)) (vb : VA (cntI C, U)) (hF : Fit S C) :
    Calls Tryz.prog 19 #[.agg #[.slice A S.length c, .slice A' V.length c'], .slice Ak C.length ck, .agg #[.slice Ab (cntI C).length cb, .slice Ab' U.length cb']] w fun e w' => Below w.heap.size w w' ∧ ∃ v, e = .returned (.tuple #[v, .int .i64 0]) ∧ IsA w' w'.heap.size v (S, paste (S.map Int.toNat) C V U ⟨#[]⟩ (Ix.prod (cnt C))) := by
  obtain ⟨hS, hT⟩ := ha.parts
  obtain ⟨hSb, hTb⟩ := hb.parts
  simp only at hS hT hSb hTb
  have hVS : VS S := va.1
  have hl : V.length = Ix.prod (S.map Int.toNat) := va.2.1
  have hlC := fit_len hF
  have hS4 := hVS.1
  have hC4 : C.length ≤ 4 := by omega
  have hCV : VS (cntI C) := vb.1
  have i2 := hia.vals
  simp only at i2
  have hzc : zints (cntI C) = ints .i64 (cnt C) := by rw [hCV.cells, cntI_nat]
  have hsz : Sz4 (cnt C) := by have := hCV.sz; rwa [cntI_nat] at this
  have hcl : (cnt C).length = C.length := by unfold cnt; rw [List.length_map]
  have hci : (cntI C).length = C.length := cntI_len C
  obtain ⟨N, hN⟩ : ∃ N, N = Ix.prod (cnt C) := ⟨_, rfl⟩
  have hN2 : N ≤ 4096 := by rw [hN, ← cntI_nat]; exact hCV.2.2
  have hlU : U.length = N := by rw [hN, ← cntI_nat]; exact vb.2.1
  rw [hci]
  rw [hci] at hb hSb
  have VVa := Lib.hid (fun W (hW : Below w.heap.size w W) => valid_any (S, V) (.agg #[.slice A S.length c, .slice A' V.length c']) W (ha.next hW) hia (he.next hW) true (by simp [va]))
  have VVb := Lib.hid (fun W (hW : Below w.heap.size w W) => valid_any (cntI C, U) (.agg #[.slice Ab C.length cb, .slice Ab' U.length cb']) W (hb.next hW) hib (he.next hW) true (by simp [vb]))
  have FF := Lib.hid (fun W (hW : Below w.heap.size w W) => fits_any C S Ak A ck c W ((hk.below hW).more hW.size).rd ((hS.below hW).more hW.size).rd hVS.2.1 hC (by unfold maxLen; omega) true (by simp [hF]))
  have CN := Lib.hid (fun W (hW : Below w.heap.size w W) => counts_any C Ak ck W ((hk.below hW).more hW.size).rd (by omega))
  have EQ := Lib.hid (fun W (hW : Below w.heap.size w W) (A9 : Option Addr) (c9 : Nat) (h9 : IsI W W.heap.size (.slice A9 (cntI C).length c9) (cntI C)) => equalz_any (cntI C) (cntI C) Ab A9 cb c9 w.heap.size W.heap.size W (hSb.rd.below hW) h9.rd hW.size (Nat.le_refl _) (by rw [hci]; unfold maxLen; omega) true (by simp))
  rw [hci] at EQ
  have CL := Lib.hid (fun W (hW : Below w.heap.size w W) => clonez_any A S.length c S W rfl (by omega) ((hS.below hW).more hW.size).rd)
  have CT := Lib.hid (fun W (hW : Below w.heap.size w W) => clones_any A' V.length c' V W rfl (by have := hVS.2.2; omega) ((hT.below hW).more hW.size).rd)
  have ST := Lib.hid (fun W (hW : Below w.heap.size w W) => strides_any (S.map Int.toNat) A c W hVS.sz (by rw [← hVS.cells]; exact ((hS.below hW).more hW.size).rd))
  rw [List.length_map] at ST
  have HKr := Lib.hid (fun W (hW : Below w.heap.size w W) => ((hk.below hW).more hW.size).rd)
  have HU := Lib.hid (fun W (hW : Below w.heap.size w W) (k : Nat) (hk2 : k < N) => show ∃ ad, Ab' = some ad ∧ ad.block < w.heap.size ∧ W.cell? (ad.add k) = some (.string (U.getD k ⟨#[]⟩)) from by
    obtain ⟨ad, e1, e2, e3⟩ := (hTb.rd.below hW).str (j := k) (by rw [hlU]; exact hk2)
    exact ⟨ad, e1, e2, by rw [List.getD_eq_getElem?_getD, List.getElem?_eq_getElem (by rw [hlU]; exact hk2)]; exact e3⟩)
  have HSb := Lib.hid (fun W (hW : Below w.heap.size w W) => show Rd W w.heap.size Ab (ints .i64 (cnt C)) from by rw [← hzc]; exact hSb.rd.below hW)
  have HH := Lib.hid (And.intro hVS (And.intro hl (And.intro hF hC)))
  have HN := Lib.hid hN
  have HSZ := Lib.hid hsz
  have HCL := Lib.hid hcl
  have HUL := Lib.hid hlU
  have B0 := BxW.start4 w 25 26 25 25 #[.slice A S.length c, .slice A' V.length c'] #[.slice Ak C.length ck] #[.slice Ab C.length cb, .slice Ab' U.length cb'] #[.slice none 0 0, .slice none 0 0]
  clear ha hk hb hS hT hSb hTb hVS hl hCV hzc hsz hcl hci va vb hF hia hib hN hC hlC hlU
  refine (callsIn_wide (n := 5)).1 ?_
  refine callsIn_of_wp_marks Tryz.func19 rfl trivial ?_ rfl
  simp only [Tryz.ntmps19, List.size_toArray, List.length_cons, List.length_nil, Nat.reduceAdd, Nat.reduceSub, Array.replicate_succ, Array.replicate_zero, List.push_toArray, List.append_toArray, List.nil_append, List.cons_append]
  gi_wp2_with fail
  generalize ((((w.alloc (.cells #[.slice A S.length c, .slice A' V.length c'] 25)).alloc (.cells #[.slice Ak C.length ck] 26)).alloc (.cells #[.slice Ab C.length cb, .slice Ab' U.length cb'] 25)).alloc (.cells #[.slice none 0 0, .slice none 0 0] 25)) = W0 at *
  refine ⟨trivial, (callsIn_wide.2 (VVa.out W0 B0.below)).mono ?_⟩
  rintro e w1 ⟨hb1, rfl⟩
  have B1 := B0.next hb1
  obtain ⟨b0, b1⟩ := bkA B1.three
  gi_wp2_with fail
  refine ⟨trivial, (callsIn_wide.2 (VVb.out w1 B1.below)).mono ?_⟩
  rintro e w2 ⟨hb2, rfl⟩
  have B2 := B1.next hb2
  clear b0 b1 hb1 hb2 B0 B1 VVa VVb
  obtain ⟨a0, a1⟩ := bkA B2.one
  have s0 : _ = some (Value.slice Ak C.length ck) := B2.two.cell 0
  gi_wp2_with fail
  refine ⟨trivial, (callsIn_wide.2 (FF.out w2 B2.below)).mono ?_⟩
  rintro e w3 ⟨hb3, rfl⟩
  have B3 := B2.next hb3
  clear a0 a1 s0 hb3 B2 FF
  obtain ⟨b0, b1⟩ := bkA B3.three
  have s0 : w3.cell? ⟨w.heap.size + 1, 0, none⟩ = some (Value.slice Ak C.length ck) := B3.two.cell 0
  gi_wp2_with fail
  refine region_wideN (by kernel_rfl) (fun Y => ((Y.cell? ⟨w.heap.size + 2, 0, none⟩ = some (.slice Ab C.length cb) ∧ Y.cell? ⟨w.heap.size + 2, 1, none⟩ = some (.slice Ab' U.length cb')) ∧ Y.cell? ⟨w.heap.size + 1, 0, none⟩ = some (.slice Ak C.length ck)) ∧ Below w.heap.size w Y) ⟨⟨⟨b0, b1⟩, s0⟩, B3.below.drew⟩ (fun hS => ?_)
  clear b0 b1 s0
  have B3d := B3.drew
  clear B3
  refine takeA (i := 0) (v := ?_) rfl (by kernel_rfl) (by kernel_rfl) (by kernel_rfl) (fun _ _ _ h => h) (by rfl) (by assumption) ?_ ?_
  rotate_left
  · intro w hSw; (try dsimp only at hSw); go_simp <;> with_reducible rfl
  try simp only [Act.put, List.setIfInBounds_toArray, List.set_cons_zero, List.set_cons_succ]
  refine takeA (i := 1) (v := ?_) rfl (by kernel_rfl) (by kernel_rfl) (by kernel_rfl) (fun _ _ _ h => h) (by rfl) (by assumption) ?_ ?_
  rotate_left
  · intro w hSw; (try dsimp only at hSw); go_simp <;> with_reducible rfl
  try simp only [Act.put, List.setIfInBounds_toArray, List.set_cons_zero, List.set_cons_succ]
  refine takeA (i := 2) (v := ?_) rfl (by kernel_rfl) (by kernel_rfl) (by kernel_rfl) (fun _ _ _ h => h) (by rfl) (by assumption) ?_ ?_
  rotate_left
  · intro w hSw; (try dsimp only at hSw); go_simp <;> with_reducible rfl
  try simp only [Act.put, List.setIfInBounds_toArray, List.set_cons_zero, List.set_cons_succ]
  refine stepA (i := 3) rfl (by kernel_rfl) (fun K0 hK0 => ?_)
  go_simp
  refine (CN.out _ B3d.below).mono ?_
  rintro e w4 ⟨hb4, v9, rfl, hown⟩
  have B4 := B3d.next hb4
  have hI9 := IsI.of_own hown
  obtain ⟨A7, c7, e9, -⟩ := hI9.form
  rw [show (cntI C).length = C.length from cntI_len C] at e9
  subst e9
  dsimp only
  refine hK0.out _ _ ⟨⟨bkA B4.three, B4.two.cell 0⟩, B4.below⟩ (fun hS4' => ?_)
  clear hK0 K0 hS hown hb4 B3d CN
  try simp only [Act.put, List.setIfInBounds_toArray, List.set_cons_zero, List.set_cons_succ]
  have EQ4 := Lib.hid (EQ.out w4 B4.below A7 c7 hI9)
  clear hI9
  refine stepA (i := 4) rfl (by kernel_rfl) (fun K0 hK0 => ?_)
  go_simp
  refine EQ4.out.mono ?_
  rintro e w5 ⟨hb5, rfl⟩
  have B5' := B4.next hb5
  dsimp only
  refine hK0.out _ _ ⟨⟨bkA B5'.three, B5'.two.cell 0⟩, B5'.below⟩ (fun hS5 => ?_)
  clear hK0 K0 hS4' hb5 B4 EQ4 EQ
  try simp only [Act.put, List.setIfInBounds_toArray, List.set_cons_zero, List.set_cons_succ]
  refine takeA (i := 5) (v := ?_) rfl (by kernel_rfl) (by kernel_rfl) (by kernel_rfl) (fun _ _ _ h => h) (by rfl) (by assumption) ?_ ?_
  rotate_left
  · intro w hSw; (try dsimp only at hSw); go_simp <;> with_reducible rfl
  try simp only [Act.put, List.setIfInBounds_toArray, List.set_cons_zero, List.set_cons_succ]
  refine takeA (i := 6) (v := ?_) rfl (by kernel_rfl) (by kernel_rfl) (by kernel_rfl) (fun _ _ _ h => h) (by rfl) (by assumption) ?_ ?_
  rotate_left
  · intro w hSw; (try dsimp only at hSw); go_simp <;> with_reducible rfl
  try simp only [Act.put, List.setIfInBounds_toArray, List.set_cons_zero, List.set_cons_succ]
  refine doneN (by kernel_rfl) ?_ _
  clear hS5
  gi_wp2_with fail
  obtain ⟨a0, a1⟩ := bkA B5'.one
  gi_cut [8] from 37 (fun x wx => ∃ ob base A9 c9 A8 c8, x = .pointer (some ⟨ob, 0, none⟩) ∧ PsAt w wx.heap.size base ([(w.heap.size, 25, #[.slice A S.length c, .slice A' V.length c']), (w.heap.size + 1, 26, #[.slice Ak C.length ck]), (w.heap.size + 2, 25, #[.slice Ab C.length cb, .slice Ab' U.length cb']), (w.heap.size + 3, 25, #[.slice none 0 0, .slice none 0 0])] ++ [(ob, 25, #[.slice A9 S.length c9, .slice A8 V.length c8])]) (.slice A9 S.length c9) (.slice A8 V.length c8) S V wx ∧ w.heap.size ≤ ob)
  case first =>
    refine region_wideN (by kernel_rfl) (fun Y => (Y.cell? ⟨w.heap.size, 0, none⟩ = some (.slice A S.length c) ∧ Y.cell? ⟨w.heap.size, 1, none⟩ = some (.slice A' V.length c')) ∧ Below w.heap.size w Y) ⟨⟨a0, a1⟩, B5'.below.drew⟩ (fun hS => ?_)
    clear a0 a1
    have B5 := B5'.drew
    clear B5'
    generalize w5.drew = w5d at *
    refine takeA (i := 0) (v := ?_) rfl (by kernel_rfl) (by kernel_rfl) (by kernel_rfl) (fun _ _ _ h => h) (by rfl) (by assumption) ?_ ?_
    rotate_left
    · intro w hSw; (try dsimp only at hSw); go_simp <;> with_reducible rfl
    try simp only [Act.put, List.setIfInBounds_toArray, List.set_cons_zero, List.set_cons_succ]
    refine takeA (i := 1) (v := ?_) rfl (by kernel_rfl) (by kernel_rfl) (by kernel_rfl) (fun _ _ _ h => h) (by rfl) (by assumption) ?_ ?_
    rotate_left
    · intro w hSw; (try dsimp only at hSw); go_simp <;> with_reducible rfl
    try simp only [Act.put, List.setIfInBounds_toArray, List.set_cons_zero, List.set_cons_succ]
    refine takeA (i := 3) (v := ?_) rfl (by kernel_rfl) (by kernel_rfl) (by kernel_rfl) (fun _ _ _ h => h) (by rfl) (by assumption) ?_ ?_
    rotate_left
    · intro w hSw; (try dsimp only at hSw); go_simp <;> with_reducible rfl
    try simp only [Act.put, List.setIfInBounds_toArray, List.set_cons_zero, List.set_cons_succ]
    refine takeA (i := 4) (v := ?_) rfl (by kernel_rfl) (by kernel_rfl) (by kernel_rfl) (fun _ _ _ h => h) (by rfl) (by assumption) ?_ ?_
    rotate_left
    · intro w hSw; (try dsimp only at hSw); go_simp <;> with_reducible rfl
    try simp only [Act.put, List.setIfInBounds_toArray, List.set_cons_zero, List.set_cons_succ]
    refine stepA2 (i := 2) (j := 7) rfl rfl (by kernel_rfl) (fun K0 hK0 => ?_) (fun K0 hK0 => ?_)
    · go_simp
      refine (CL.out _ B5.below).mono ?_
      rintro e wa ⟨hb1, v9, rfl, hown9⟩
      have Ba := B5.next hb1
      have hI9 := IsI.of_own hown9
      obtain ⟨A9, c9, rfl, -⟩ := hI9.form
      try dsimp only
      refine hK0.out _ _ ⟨bkA Ba.one, Ba.below⟩ (fun hS => ?_)
      clear hown9 hb1
      clear hK0 K0
      try simp only [Act.put, List.setIfInBounds_toArray, List.set_cons_zero, List.set_cons_succ]
      refine stepA2 (i := 5) (j := 7) rfl rfl (by kernel_rfl) (fun K0 hK0 => ?_) (fun K0 hK0 => ?_)
      · go_simp
        refine (CT.out _ Ba.below).mono ?_
        rintro e wb ⟨hb2, v8, rfl, hown8⟩
        have Bb := Ba.next hb2
        obtain ⟨A8, c8, rfl⟩ := own_formV hown8
        replace hI9 := hI9.next hb2
        try dsimp only
        refine hK0.out _ _ ⟨bkA Bb.one, Bb.below⟩ (fun hS => ?_)
        clear hb2
        clear hK0 K0
        try simp only [Act.put, List.setIfInBounds_toArray, List.set_cons_zero, List.set_cons_succ]
        have hbase := Ba.below
        refine takeA (i := 6) (v := ?_) rfl (by kernel_rfl) (by kernel_rfl) (by kernel_rfl) (fun _ _ _ h => h) (by rfl) (by assumption) ?_ ?_
        rotate_left
        · intro w hSw; (try dsimp only at hSw); go_simp <;> with_reducible rfl
        try simp only [Act.put, List.setIfInBounds_toArray, List.set_cons_zero, List.set_cons_succ]
        refine stepA (i := 7) rfl (by kernel_rfl) (fun K0 hK0 => ?_)
        go_simp
        have kb := Bk.new wb 25 #[Value.slice none 0 0, .slice none 0 0]
        have Bc := Bb.next (below_alloc wb (.cells #[Value.slice none 0 0, .slice none 0 0] 25))
        have lob : ∀ p ∈ ([(w.heap.size, 25, #[.slice A S.length c, .slice A' V.length c']), (w.heap.size + 1, 26, #[.slice Ak C.length ck]), (w.heap.size + 2, 25, #[.slice Ab C.length cb, .slice Ab' U.length cb']), (w.heap.size + 3, 25, #[.slice none 0 0, .slice none 0 0])] : List Bx), p.1 < wb.heap.size := fun p hp => (Bb.keep p hp).lt
        have wob := Bb.below.size
        replace hI9 := hI9.next (below_alloc wb (.cells #[Value.slice none 0 0, .slice none 0 0] 25))
        have lo8 := fun g h => (hown8.lt g h).2
        have hown8 := hown8.alloc (.cells #[Value.slice none 0 0, .slice none 0 0] 25)
        try dsimp only
        refine hK0.out _ _ ⟨bkA Bc.one, Bc.below⟩ (fun hS => ?_)
        clear hK0 K0
        try simp only [Act.put, List.setIfInBounds_toArray, List.set_cons_zero, List.set_cons_succ]
        generalize wb.alloc (.cells #[Value.slice none 0 0, .slice none 0 0] 25) = wal at *
        have M := PsAt.make Bc kb hI9 hown8 hbase.size (fun p hp => (Ba.keep p hp).lt) lob (.inr lo8) wob
        obtain ⟨k0, k1⟩ := bkA kb
        have fz0 := kb.frozen 0
        have fz1 := kb.frozen 1
        refine stepA (i := 8) rfl (by kernel_rfl) (fun K0 hK0 => ?_)
        go_simp
        refine hK0.out _ _ ⟨bkA (M.keep (w.heap.size, 25, #[.slice A S.length c, .slice A' V.length c']) (by simp)), M.below⟩ (fun hS9 => ?_)
        clear hK0 K0
        try simp only [Act.put, List.setIfInBounds_toArray, List.set_cons_zero, List.set_cons_succ]
        refine doneN (by kernel_rfl) ?_ _
        gi_wp2_with fail
        gi_meet
        case rel => exact ⟨_, _, _, _, _, _, rfl, M, wob⟩
      · go_simp
        have kb := Bk.new wa 25 #[Value.slice none 0 0, .slice none 0 0]
        have Bb := Ba.next (below_alloc wa (.cells #[Value.slice none 0 0, .slice none 0 0] 25))
        have lob : ∀ p ∈ ([(w.heap.size, 25, #[.slice A S.length c, .slice A' V.length c']), (w.heap.size + 1, 26, #[.slice Ak C.length ck]), (w.heap.size + 2, 25, #[.slice Ab C.length cb, .slice Ab' U.length cb']), (w.heap.size + 3, 25, #[.slice none 0 0, .slice none 0 0])] : List Bx), p.1 < wa.heap.size := fun p hp => (Ba.keep p hp).lt
        have wob := Ba.below.size
        replace hI9 := hI9.next (below_alloc wa (.cells #[Value.slice none 0 0, .slice none 0 0] 25))
        try dsimp only
        refine hK0.out _ _ ⟨bkA Bb.one, Bb.below⟩ (fun hS => ?_)
        clear hK0 K0
        try simp only [Act.put, List.setIfInBounds_toArray, List.set_cons_zero, List.set_cons_succ]
        generalize wa.alloc (.cells #[Value.slice none 0 0, .slice none 0 0] 25) = wal at *
        have hbase := Bb.below
        have lbb := kb.lt
        refine stepA (i := 5) rfl (by kernel_rfl) (fun K0 hK0 => ?_)
        go_simp
        refine (CT.out _ Bb.below).mono ?_
        rintro e wb ⟨hb2, v8, rfl, hown8⟩
        have Bc := Bb.next hb2
        obtain ⟨A8, c8, rfl⟩ := own_formV hown8
        replace hI9 := hI9.next hb2
        replace kb := kb.next' hb2
        try dsimp only
        refine hK0.out _ _ ⟨bkA Bc.one, Bc.below⟩ (fun hS => ?_)
        clear hb2
        clear hK0 K0
        try simp only [Act.put, List.setIfInBounds_toArray, List.set_cons_zero, List.set_cons_succ]
        refine takeA (i := 6) (v := ?_) rfl (by kernel_rfl) (by kernel_rfl) (by kernel_rfl) (fun _ _ _ h => h) (by rfl) (by assumption) ?_ ?_
        rotate_left
        · intro w hSw; (try dsimp only at hSw); go_simp <;> with_reducible rfl
        try simp only [Act.put, List.setIfInBounds_toArray, List.set_cons_zero, List.set_cons_succ]
        have M := PsAt.make Bc kb hI9 hown8 hbase.size (fun p hp => Nat.lt_trans (lob p hp) lbb) lob (.inl lbb) wob
        obtain ⟨k0, k1⟩ := bkA kb
        have fz0 := kb.frozen 0
        have fz1 := kb.frozen 1
        refine stepA (i := 8) rfl (by kernel_rfl) (fun K0 hK0 => ?_)
        go_simp
        refine hK0.out _ _ ⟨bkA (M.keep (w.heap.size, 25, #[.slice A S.length c, .slice A' V.length c']) (by simp)), M.below⟩ (fun hS9 => ?_)
        clear hK0 K0
        try simp only [Act.put, List.setIfInBounds_toArray, List.set_cons_zero, List.set_cons_succ]
        refine doneN (by kernel_rfl) ?_ _
        gi_wp2_with fail
        gi_meet
        case rel => exact ⟨_, _, _, _, _, _, rfl, M, wob⟩
    · go_simp
      have kb := Bk.new w5d 25 #[Value.slice none 0 0, .slice none 0 0]
      have Ba := B5.next (below_alloc w5d (.cells #[Value.slice none 0 0, .slice none 0 0] 25))
      have lob : ∀ p ∈ ([(w.heap.size, 25, #[.slice A S.length c, .slice A' V.length c']), (w.heap.size + 1, 26, #[.slice Ak C.length ck]), (w.heap.size + 2, 25, #[.slice Ab C.length cb, .slice Ab' U.length cb']), (w.heap.size + 3, 25, #[.slice none 0 0, .slice none 0 0])] : List Bx), p.1 < w5d.heap.size := fun p hp => (B5.keep p hp).lt
      have wob := B5.below.size
      try dsimp only
      refine hK0.out _ _ ⟨bkA Ba.one, Ba.below⟩ (fun hS => ?_)
      clear hK0 K0
      try simp only [Act.put, List.setIfInBounds_toArray, List.set_cons_zero, List.set_cons_succ]
      generalize w5d.alloc (.cells #[Value.slice none 0 0, .slice none 0 0] 25) = wal at *
      refine stepA (i := 2) rfl (by kernel_rfl) (fun K0 hK0 => ?_)
      go_simp
      refine (CL.out _ Ba.below).mono ?_
      rintro e wa ⟨hb1, v9, rfl, hown9⟩
      have Bb := Ba.next hb1
      have hI9 := IsI.of_own hown9
      obtain ⟨A9, c9, rfl, -⟩ := hI9.form
      replace kb := kb.next' hb1
      try dsimp only
      refine hK0.out _ _ ⟨bkA Bb.one, Bb.below⟩ (fun hS => ?_)
      clear hown9 hb1
      clear hK0 K0
      try simp only [Act.put, List.setIfInBounds_toArray, List.set_cons_zero, List.set_cons_succ]
      have hbase := Bb.below
      have lbb := kb.lt
      refine stepA (i := 5) rfl (by kernel_rfl) (fun K0 hK0 => ?_)
      go_simp
      refine (CT.out _ Bb.below).mono ?_
      rintro e wb ⟨hb2, v8, rfl, hown8⟩
      have Bc := Bb.next hb2
      obtain ⟨A8, c8, rfl⟩ := own_formV hown8
      replace hI9 := hI9.next hb2
      replace kb := kb.next' hb2
      try dsimp only
      refine hK0.out _ _ ⟨bkA Bc.one, Bc.below⟩ (fun hS => ?_)
      clear hb2
      clear hK0 K0
      try simp only [Act.put, List.setIfInBounds_toArray, List.set_cons_zero, List.set_cons_succ]
      refine takeA (i := 6) (v := ?_) rfl (by kernel_rfl) (by kernel_rfl) (by kernel_rfl) (fun _ _ _ h => h) (by rfl) (by assumption) ?_ ?_
      rotate_left
      · intro w hSw; (try dsimp only at hSw); go_simp <;> with_reducible rfl
      try simp only [Act.put, List.setIfInBounds_toArray, List.set_cons_zero, List.set_cons_succ]
      have M := PsAt.make Bc kb hI9 hown8 hbase.size (fun p hp => Nat.lt_trans (lob p hp) lbb) lob (.inl lbb) wob
      obtain ⟨k0, k1⟩ := bkA kb
      have fz0 := kb.frozen 0
      have fz1 := kb.frozen 1
      refine stepA (i := 8) rfl (by kernel_rfl) (fun K0 hK0 => ?_)
      go_simp
      refine hK0.out _ _ ⟨bkA (M.keep (w.heap.size, 25, #[.slice A S.length c, .slice A' V.length c']) (by simp)), M.below⟩ (fun hS9 => ?_)
      clear hK0 K0
      try simp only [Act.put, List.setIfInBounds_toArray, List.set_cons_zero, List.set_cons_succ]
      refine doneN (by kernel_rfl) ?_ _
      gi_wp2_with fail
      gi_meet
      case rel => exact ⟨_, _, _, _, _, _, rfl, M, wob⟩
  case rest =>
    obtain ⟨ob, base, A9, c9, A8, c8, rfl, M, hob⟩ := hcut
    clear a0 a1 B5' CL CT
    obtain ⟨a0, a1⟩ := bkA (M.keep (w.heap.size, 25, #[.slice A S.length c, .slice A' V.length c']) (by simp))
    gi_wp2_with fail
    refine ⟨trivial, (callsIn_wide.2 (ST.out wc M.below)).mono ?_⟩
    rintro e w8 ⟨hb8, rfl, hg8⟩
    have M8 := M.next hb8
    have lw := M.size
    clear a0 a1 hb8 ST
    have hb9 := below_alloc w8 (.cells #[.slice (some ⟨wc.heap.size, 0, none⟩) S.length S.length] 22)
    have hg9 := hg8.next' hb9
    have M9 := M8.next hb9
    have k9 := Bk.new w8 22 #[Value.slice (some ⟨wc.heap.size, 0, none⟩) S.length S.length]
    have lw8 : w8.heap.size < (w8.alloc (.cells #[.slice (some ⟨wc.heap.size, 0, none⟩) S.length S.length] 22)).heap.size := by simp
    have lg8 := hg8.lt
    obtain ⟨b0, b1⟩ := bkA (M9.keep (w.heap.size + 2, 25, #[.slice Ab C.length cb, .slice Ab' U.length cb']) (by simp))
    gi_wp2_with fail
    refine ⟨trivial, (callsIn_wide.2 (indexes_any Ab C.length cb _)).mono ?_⟩
    generalize w8.alloc (.cells #[.slice (some ⟨wc.heap.size, 0, none⟩) S.length S.length] 22) = w9 at *
    rintro e w10 ⟨rfl, rfl⟩
    clear b0 b1 hb9 M8 M
    have hb10 := below_alloc w9 (.cells #[.slice Ab C.length cb] 22)
    have hg10 := hg9.next' hb10
    have M10 := M9.next hb10
    have k10 := k9.next' hb10
    have kbx := Bk.new w9 22 #[Value.slice Ab C.length cb]
    have lw9 : w9.heap.size < (w9.alloc (.cells #[.slice Ab C.length cb] 22)).heap.size := by simp
    gi_wp2_with fail
    generalize w9.alloc (.cells #[.slice Ab C.length cb] 22) = w10 at *
    have eI : idxArgs (cnt C) = fun X k => #[.int .i64 (k : Int), .slice (some ⟨X, 0, none⟩) C.length C.length] := by funext X k; unfold idxArgs; rw [HCL.out]
    have G := indexes1_gives (cnt C) Ab cb w9.heap.size w.heap.size 4 w10 (by omega) HSZ.out lw9 M10.below.size (by rw [HCL.out]; exact kbx.cell 0) (HSb.out w10 M10.below)
    rw [← HN.out, eI] at G
    have hsz10 := M10.size
    have M0 := M10.add [(wc.heap.size, 3, (ints .i64 (strides (S.map Int.toNat))).toArray), (w8.heap.size, 22, #[.slice (some ⟨wc.heap.size, 0, none⟩) S.length S.length]), (w9.heap.size, 22, #[.slice Ab C.length cb])] (fun p hp => by
      simp at hp
      rcases hp with rfl | rfl | rfl
      · exact hg10
      · exact k10
      · exact kbx) (fun p hp => by
      simp at hp
      rcases hp with rfl | rfl | rfl
      · exact Nat.le_refl _
      · show wc.heap.size ≤ w8.heap.size; omega
      · show wc.heap.size ≤ w9.heap.size; omega)
    clear hg8 hg9 hg10 M9 M10 k9 k10 kbx hb10 eI HSb HSZ
    simp only [List.cons_append, List.nil_append] at M0
    refine wpIn_range_idx (n := 5) rfl (by omega) (gf := 117) (lb := #[.pointer (some ⟨w9.heap.size, 0, none⟩)]) rfl trivial (enters_of Tryz.func117 (by kernel_rfl) rfl) G (Below.refl _ _) (fun _ _ => rfl)
      (fun X k A l o o' _ h1 h2 h3 => h1.put o' h2 h3)
      (fun _ k W => PsAt w w10.heap.size base [(w.heap.size, 25, #[.slice A S.length c, .slice A' V.length c']), (w.heap.size + 1, 26, #[.slice Ak C.length ck]), (w.heap.size + 2, 25, #[.slice Ab C.length cb, .slice Ab' U.length cb']), (w.heap.size + 3, 25, #[.slice none 0 0, .slice none 0 0]), (ob, 25, #[.slice A9 S.length c9, .slice A8 V.length c8]), (wc.heap.size, 3, (ints .i64 (strides (S.map Int.toNat))).toArray), (w8.heap.size, 22, #[.slice (some ⟨wc.heap.size, 0, none⟩) S.length S.length]), (w9.heap.size, 22, #[.slice Ab C.length cb])] (.slice A9 S.length c9) (.slice A8 V.length c8) S (paste (S.map Int.toNat) C V U ⟨#[]⟩ k) W)
      (fun X k A B row hX h1 hg hr => h1.grown hg (fun r e => by rcases hr r e with rfl | ⟨h2, _⟩ <;> omega))
      (fun X r => (M0.next (below_alloc _ _)).next (below_alloc _ _))
      (fun X k => { tmps := #[.agg #[.slice A S.length c, .slice A' V.length c'], .slice Ak C.length ck, .agg #[.slice Ab C.length cb, .slice Ab' U.length cb'], .pointer (some ⟨w.heap.size, 0, none⟩), .pointer (some ⟨w.heap.size + 1, 0, none⟩), .pointer (some ⟨w.heap.size + 1 + 1, 0, none⟩), .pointer (some ⟨w.heap.size + 1 + 1 + 1, 0, none⟩), .int .i64 0, .pointer (some ⟨ob, 0, none⟩), .pointer (some ⟨w8.heap.size, 0, none⟩), .int .i64 (k : Int), .slice (some ⟨X, 0, none⟩) C.length C.length, .bool false, .agg #[.slice A S.length c, .slice A' V.length c'], .bool true, .bool false, .bool false, .agg #[.slice Ab C.length cb, .slice Ab' U.length cb'], .bool true, .bool false, .bool false, undef, .bool false, .slice Ak C.length ck, .pointer (some ⟨w.heap.size, 0, none⟩), .slice A S.length c, .bool true, .bool false, undef, .bool false, .pointer (some ⟨w.heap.size + 1 + 1, 0, none⟩), .slice Ab C.length cb, .slice Ak C.length ck, .slice A7 C.length c7, .bool true, .bool false, undef, u37, u38, u39, u40, u41, u42, u43, .pointer (some ⟨w.heap.size, 0, none⟩), .slice A S.length c, .slice (some ⟨wc.heap.size, 0, none⟩) S.length S.length, .pointer (some ⟨w.heap.size + 1 + 1, 0, none⟩), .slice Ab C.length cb, .func (.func 117) #[] #[.pointer (some ⟨w9.heap.size, 0, none⟩)], .int .i64 (k : Int), .slice (some ⟨X, 0, none⟩) C.length C.length, u52, u53, u54, u55, u56, u57, u58, u59, u60, u61, u62, u63, u64, u65], defers := [] }) ?assign ?body ?done
    case assign =>
      intro l X k W K hK
      gi_wp2
      exact hK
    case body =>
      rintro l X k W hl' hX hM hKp hlt
      obtain ⟨j1, j2, j3, j4⟩ := HH.out
      have hli : (idx (cnt C) k).length = C.length := by rw [idx_len, HCL.out]
      have hlC := fit_len j3
      have hin := idx_inside (cnt C) k (by rw [← HN.out]; exact hlt)
      have hti := thr_inside j3 hin
      have hpl := place_lt _ _ hti
      have htl : (thr C (idx (cnt C) k)).length = S.length := by rw [thr_len hli, hlC]
      have hdot := dot_eq (S.map Int.toNat) (thr C (idx (cnt C) k)) (by rw [htl, List.length_map])
      have hp4 := j1.2.2
      have WI := Lib.hid (within_any C S (idx (cnt C) k) Ak (some ⟨X, 0, none⟩) ck C.length W.drew (HKr.out W.drew hM.below.drew) (by simpa using hKp.1.drew.rd) j3 j1.2.1 hin hC4 j4)
      rw [hli] at WI
      have PL := Lib.hid (fun (W' : World) (gw : Nat) (h4 : Bk W' gw 3 (ints .i64 (thr C (idx (cnt C) k))).toArray) (h5 : Bk W' wc.heap.size 3 (ints .i64 (strides (S.map Int.toNat))).toArray) =>
        show Calls Tryz.prog 64 #[.slice (some ⟨gw, 0, none⟩) C.length C.length, .slice (some ⟨wc.heap.size, 0, none⟩) S.length S.length] W' fun e w' => W' = w' ∧ e = .returned (.int .i64 (place (S.map Int.toNat) (thr C (idx (cnt C) k)) : Nat)) from by
          have h := place_any (thr C (idx (cnt C) k)) (strides (S.map Int.toNat)) (some ⟨gw, 0, none⟩) (some ⟨wc.heap.size, 0, none⟩) C.length S.length W'.heap.size W'.heap.size W' (by rw [htl, strides_len, List.length_map]) (by rw [htl]; exact j1.1) (by rw [hdot]; omega) (by simpa using h4.rd) (by simpa using h5.rd)
          rw [hdot, htl, strides_len, List.length_map, ← hlC] at h
          rw [← hlC]; exact h)
      have HPS := Lib.hid (show paste (S.map Int.toNat) C V U ⟨#[]⟩ (k + 1) = (paste (S.map Int.toNat) C V U ⟨#[]⟩ k).set (place (S.map Int.toNat) (thr C (idx (cnt C) k))) (U.getD k ⟨#[]⟩) from rfl)
      have hmV : place (S.map Int.toNat) (thr C (idx (cnt C) k)) < (paste (S.map Int.toNat) C V U ⟨#[]⟩ k).length := by rw [paste_len, j2]; exact hpl
      have HPL : Hid ((paste (S.map Int.toNat) C V U ⟨#[]⟩ k).length = V.length) := paste_len _ _ _ _ _ _
      obtain ⟨adu, rfl, hub, huc⟩ := HU.out w (Below.refl _ _) k hlt
      have HUW := Lib.hid huc
      clear huc
      obtain ⟨g, gc, ge, -⟩ := hM.set hmV
      rw [HPL.out] at ge
      simp only [Value.slice.injEq] at ge
      obtain ⟨rfl, -, rfl⟩ := ge
      have hmV2 : place (S.map Int.toNat) (thr C (idx (cnt C) k)) < V.length := by rw [← HPL.out]; exact hmV
      generalize place (S.map Int.toNat) (thr C (idx (cnt C) k)) = m at *
      generalize U.getD k ⟨#[]⟩ = x at *
      have i1' : (0 : Int) ≤ (m : Int) := by omega
      have i2' : (m : Int) < (V.length : Int) := by omega
      have i3' : (0 : Int) ≤ (k : Int) := by omega
      have i4' : (k : Int) < (U.length : Int) := by rw [HUL.out]; omega
      have HMV := Lib.hid hmV
      clear hli hin hti hpl htl hdot hp4 hmV hmV2 j1 j2 j3 j4 hlC
      have M1 := hM.drew
      have FC := Lib.hid (fun (Y : World) (l9 : List ByteArray) (h : PsAt w w10.heap.size base [(w.heap.size, 25, #[.slice A S.length c, .slice A' V.length c']), (w.heap.size + 1, 26, #[.slice Ak C.length ck]), (w.heap.size + 2, 25, #[.slice Ab C.length cb, .slice (some adu) U.length cb']), (w.heap.size + 3, 25, #[.slice none 0 0, .slice none 0 0]), (ob, 25, #[.slice A9 S.length c9, .slice (some ⟨g, 0, none⟩) V.length c8]), (wc.heap.size, 3, (ints .i64 (strides (S.map Int.toNat))).toArray), (w8.heap.size, 22, #[.slice (some ⟨wc.heap.size, 0, none⟩) S.length S.length]), (w9.heap.size, 22, #[.slice Ab C.length cb])] (.slice A9 S.length c9) (.slice (some ⟨g, 0, none⟩) V.length c8) S l9 Y) => show ((((Y.cell? ⟨ob, 0, none⟩ = some (.slice A9 S.length c9) ∧ Y.cell? ⟨ob, 1, none⟩ = some (.slice (some ⟨g, 0, none⟩) V.length c8)) ∧ (Y.cell? ⟨w.heap.size + 2, 0, none⟩ = some (.slice Ab C.length cb) ∧ Y.cell? ⟨w.heap.size + 2, 1, none⟩ = some (.slice (some adu) U.length cb'))) ∧ Y.cell? ⟨w.heap.size + 1, 0, none⟩ = some (.slice Ak C.length ck)) ∧ Y.cell? ⟨w8.heap.size, 0, none⟩ = some (.slice (some ⟨wc.heap.size, 0, none⟩) S.length S.length)) ∧ Y.cell? (adu.add k) = some (.string x) from
        ⟨⟨⟨⟨bkA (h.keep (ob, 25, #[.slice A9 S.length c9, .slice (some ⟨g, 0, none⟩) V.length c8]) (by simp)), bkA (h.keep (w.heap.size + 2, 25, #[.slice Ab C.length cb, .slice (some adu) U.length cb']) (by simp))⟩, (h.keep (w.heap.size + 1, 26, #[.slice Ak C.length ck]) (by simp)).cell 0⟩, (h.keep (w8.heap.size, 22, #[.slice (some ⟨wc.heap.size, 0, none⟩) S.length S.length]) (by simp)).cell 0⟩, (h.below.cell (p := adu.add k) (by rw [addr_block]; exact hub)).trans HUW.out⟩)
      refine wpIn_block ?_
      refine region_roundM 13 (by kernel_rfl) (by kernel_rfl) (fun ⟨_, _, h⟩ => h) (fun Y => ((((Y.cell? ⟨ob, 0, none⟩ = some (.slice A9 S.length c9) ∧ Y.cell? ⟨ob, 1, none⟩ = some (.slice (some ⟨g, 0, none⟩) V.length c8)) ∧ (Y.cell? ⟨w.heap.size + 2, 0, none⟩ = some (.slice Ab C.length cb) ∧ Y.cell? ⟨w.heap.size + 2, 1, none⟩ = some (.slice (some adu) U.length cb'))) ∧ Y.cell? ⟨w.heap.size + 1, 0, none⟩ = some (.slice Ak C.length ck)) ∧ Y.cell? ⟨w8.heap.size, 0, none⟩ = some (.slice (some ⟨wc.heap.size, 0, none⟩) S.length S.length)) ∧ Y.cell? (adu.add k) = some (.string x)) (FC.out W.drew _ M1) (fun hS0 => ?_)
      refine takeM (i := 0) (v := ?_) rfl (by kernel_rfl) (by decide) (by kernel_rfl) (by kernel_rfl) (by kernel_rfl) (fun _ _ _ h => h) (by rfl) (by assumption) ?_ ?_
      rotate_left
      · intro w hSw; (try dsimp only at hSw); go_simp <;> with_reducible rfl
      try simp only [Act.put, List.setIfInBounds_toArray, List.set_cons_zero, List.set_cons_succ]
      refine takeM (i := 1) (v := ?_) rfl (by kernel_rfl) (by decide) (by kernel_rfl) (by kernel_rfl) (by kernel_rfl) (fun _ _ _ h => h) (by rfl) (by assumption) ?_ ?_
      rotate_left
      · intro w hSw; (try dsimp only at hSw); go_simp <;> with_reducible rfl
      try simp only [Act.put, List.setIfInBounds_toArray, List.set_cons_zero, List.set_cons_succ]
      refine takeM (i := 2) (v := ?_) rfl (by kernel_rfl) (by decide) (by kernel_rfl) (by kernel_rfl) (by kernel_rfl) (fun _ _ _ h => h) (by rfl) (by assumption) ?_ ?_
      rotate_left
      · intro w hSw; (try dsimp only at hSw); go_simp <;> with_reducible rfl
      try simp only [Act.put, List.setIfInBounds_toArray, List.set_cons_zero, List.set_cons_succ]
      refine takeM (i := 3) (v := ?_) rfl (by kernel_rfl) (by decide) (by kernel_rfl) (by kernel_rfl) (by kernel_rfl) (fun _ _ _ h => h) (by rfl) (by assumption) ?_ ?_
      rotate_left
      · intro w hSw; (try dsimp only at hSw); go_simp <;> with_reducible rfl
      try simp only [Act.put, List.setIfInBounds_toArray, List.set_cons_zero, List.set_cons_succ]
      refine takeM (i := 5) (v := ?_) rfl (by kernel_rfl) (by decide) (by kernel_rfl) (by kernel_rfl) (by kernel_rfl) (fun _ _ _ h => h) (by rfl) (by assumption) ?_ ?_
      rotate_left
      · intro w hSw; (try dsimp only at hSw); go_simp <;> with_reducible rfl
      try simp only [Act.put, List.setIfInBounds_toArray, List.set_cons_zero, List.set_cons_succ]
      refine takeM (i := 7) (v := ?_) rfl (by kernel_rfl) (by decide) (by kernel_rfl) (by kernel_rfl) (by kernel_rfl) (fun _ _ _ h => h) (by rfl) (by assumption) ?_ ?_
      rotate_left
      · intro w hSw; (try dsimp only at hSw); go_simp <;> with_reducible rfl
      try simp only [Act.put, List.setIfInBounds_toArray, List.set_cons_zero, List.set_cons_succ]
      refine takeM (i := 8) (v := ?_) rfl (by kernel_rfl) (by decide) (by kernel_rfl) (by kernel_rfl) (by kernel_rfl) (fun _ _ _ h => h) (by rfl) (by assumption) ?_ ?_
      rotate_left
      · intro w hSw; (try dsimp only at hSw); go_simp <;> with_reducible rfl
      try simp only [Act.put, List.setIfInBounds_toArray, List.set_cons_zero, List.set_cons_succ]
      refine takeM (i := 9) (v := ?_) rfl (by kernel_rfl) (by decide) (by kernel_rfl) (by kernel_rfl) (by kernel_rfl) (fun _ _ _ h => h) (by rfl) (by assumption) ?_ ?_
      rotate_left
      · intro w hSw; (try dsimp only at hSw); go_simp <;> with_reducible rfl
      try simp only [Act.put, List.setIfInBounds_toArray, List.set_cons_zero, List.set_cons_succ]
      refine takeM (i := 10) (v := ?_) rfl (by kernel_rfl) (by decide) (by kernel_rfl) (by kernel_rfl) (by kernel_rfl) (fun _ _ _ h => h) (by rfl) (by assumption) ?_ ?_
      rotate_left
      · intro w hSw; (try dsimp only at hSw); go_simp <;> with_reducible rfl
      try simp only [Act.put, List.setIfInBounds_toArray, List.set_cons_zero, List.set_cons_succ]
      refine takeM (i := 11) (v := ?_) rfl (by kernel_rfl) (by decide) (by kernel_rfl) (by kernel_rfl) (by kernel_rfl) (fun _ _ _ h => h) (by rfl) (by assumption) ?_ ?_
      rotate_left
      · intro w hSw; (try dsimp only at hSw); go_simp <;> with_reducible rfl
      try simp only [Act.put, List.setIfInBounds_toArray, List.set_cons_zero, List.set_cons_succ]
      clear hS0
      refine stepM (i := 4) rfl (by kernel_rfl) (fun K0 hK0 => ?_)
      go_simp
      refine WI.out.mono ?_
      rintro e w5 ⟨hb5, rfl, hw5⟩
      have M5 := M1.next hb5
      have hS5 := FC.out w5 _ M5
      dsimp only
      refine hK0.out _ _ (fun _ => hS5) (fun _ => ?_)
      clear hK0 K0 WI
      try simp only [Act.put, List.setIfInBounds_toArray, List.set_cons_zero, List.set_cons_succ]
      have P5 := Lib.hid (PL.out w5 W.drew.heap.size hw5 (M5.keep (wc.heap.size, 3, (ints .i64 (strides (S.map Int.toNat))).toArray) (by simp)))
      refine stepM (i := 6) rfl (by kernel_rfl) (fun K0 hK0 => ?_)
      go_simp
      refine P5.out.mono ?_
      rintro e w' ⟨rfl, rfl⟩
      dsimp only
      refine hK0.out _ _ (fun _ => hS5) (fun _ => ?_)
      clear hK0 K0 P5 PL
      try simp only [Act.put, List.setIfInBounds_toArray, List.set_cons_zero, List.set_cons_succ]
      refine takeM (i := 12) (v := ?_) rfl (by kernel_rfl) (by decide) (by kernel_rfl) (by kernel_rfl) (by kernel_rfl) (fun _ _ _ h => h) (by rfl) (by assumption) ?_ ?_
      rotate_left
      · intro w hSw; (try dsimp only at hSw); go_simp <;> with_reducible rfl
      try simp only [Act.put, List.setIfInBounds_toArray, List.set_cons_zero, List.set_cons_succ]
      clear hS5
      obtain ⟨g2, gc2, ge2, glo, gw, gne, gcell, gfz, gset⟩ := M5.set HMV.out
      rw [HPL.out] at ge2
      simp only [Value.slice.injEq, Option.some.injEq, Addr.mk.injEq, and_true, true_and] at ge2
      obtain ⟨rfl, rfl⟩ := ge2
      have GS := gset x
      rw [← HPS.out] at GS
      clear gset FC
      refine stepM (i := 13) rfl (by kernel_rfl) (fun K0 hK0 => ?_)
      go_simp
      refine hK0.out _ _ (fun h => absurd rfl h) (fun _ => ?_)
      clear hK0 K0
      try simp only [Act.put, List.setIfInBounds_toArray, List.set_cons_zero, List.set_cons_succ]
      refine doneM (by kernel_rfl) ?_ _
      refine ⟨((KeepsOthers.drew W).from _).trans ((KeepsFrom.of_grownBy (grown_of_below hb5 none) (fun j e => by cases e)).trans ((KeepsOthers.setCell w5 _ _).from _)), GS, ?_⟩
      obtain ⟨q1, q2, q3⟩ := hKp
      have hsw := hM.below.size
      have q1' := q1.drew.next' hb5
      have gb := gne (w9.heap.size, 22, #[.slice Ab C.length cb]) (by simp)
      refine ⟨q1'.far (by show X ≠ g; omega) _, ?_, ?_⟩
      · exact (World.cell?_setCell_other w5 ⟨g, m, none⟩ ⟨w9.heap.size, 0, none⟩ (.string x) (fun e => by injection e with e1; exact gb e1.symm)).trans ((hb5.cell (p := ⟨w9.heap.size, 0, none⟩) (by show w9.heap.size < W.heap.size; have := hM.size; omega)).trans q2)
      · exact (((show Rd W.drew _ _ _ from q3).below (hb5.mono hsw))).setCell (p := ⟨g, m, none⟩) gw _
    case done =>
      rintro D X W hD hX hM hK
      have KO := hM.keep (ob, 25, #[.slice A9 S.length c9, .slice A8 V.length c8]) (by simp)
      have KR := hM.keep (w.heap.size + 3, 25, #[.slice none 0 0, .slice none 0 0]) (by simp)
      obtain ⟨o0, o1⟩ := bkA KO
      obtain ⟨d0, d1⟩ := bkA KR
      have f0 := KR.frozen 0
      have f1 := KR.frozen 1
      gi_wp2
      have k7 := (KR.put 0 (.slice A9 S.length c9)).put 1 (.slice A8 V.length c8)
      have B7 : Below w.heap.size w ((W.setCell ⟨w.heap.size + 3, 0, none⟩ (.slice A9 S.length c9)).setCell ⟨w.heap.size + 3, 1, none⟩ (.slice A8 V.length c8)) := (hM.below.setCell (p := ⟨w.heap.size + 3, 0, none⟩) (by simp) _).setCell (p := ⟨w.heap.size + 3, 1, none⟩) (by simp) _
      have K7 := ((KeepsOthers.setCell W ⟨w.heap.size + 3, 0, none⟩ (.slice A9 S.length c9)).trans (KeepsOthers.setCell _ ⟨w.heap.size + 3, 1, none⟩ (.slice A8 V.length c8))).same D _ hK rfl
      have I7 := hM.isA.ret d0 d1 (.slice A9 S.length c9) (.slice A8 V.length c8)
      have hDz := hM.size
      generalize ((W.setCell ⟨w.heap.size + 3, 0, none⟩ (.slice A9 S.length c9)).setCell ⟨w.heap.size + 3, 1, none⟩ (.slice A8 V.length c8)) = W7 at *
      refine ⟨by simp, .inl ⟨_, _, rfl, run_takeDeferred K7, ?_⟩⟩
      have hg8 := grownBy_putObj' W7 D (.deferred none)
      have hr8 : ∀ r, some D = some r → ∃ o : Obj, W7.heap[r]? = some o ∧ o.isCells = false := fun r e => by cases e; exact ⟨_, K7, rfl⟩
      have lk7 := KR.lt
      have wz := M0.wlo
      have k8 : Bk _ _ _ #[.slice A9 S.length c9, .slice A8 V.length c8] := (show Bk W7 (w.heap.size + 3) 25 #[.slice A9 S.length c9, .slice A8 V.length c8] from by simpa using k7).grown hg8 (fun e => by have := hM.lt (w.heap.size + 3, 25, #[.slice none 0 0, .slice none 0 0]) (by simp); simp only at this; injection e with e; omega)
      have B8 := B7.grown hg8 (by have := B7.size; omega) (fun r e => by cases e; omega)
      have I8 := I7.own hg8 hr8
      rw [show W7.heap.size = (W7.putObj D (.deferred none)).heap.size from World.putObj_size.symm] at I8
      obtain ⟨e0, e1⟩ := bkA k8
      generalize W7.putObj D (.deferred none) = W8 at *
      refine ⟨.tuple #[.agg #[.slice A9 S.length c9, .slice A8 V.length c8], .int .i64 0], by simp [results, Tryz.results19, go_sem, e0, e1], ?_⟩
      exact ⟨B8, _, rfl, by rw [← HN.out]; exact I8⟩
end Go.Proofs.YtgnffedncjjkfaaGreatDoor

namespace Go.Proofs.YtgnffedncjjkfaaGreatDoor
open Go.RowKit Ix Ar

set_option maxRecDepth 100000 in
set_option maxHeartbeats 12800000 in
theorem paste_any (a b : Arr) (C : List Cut) (va vk vb : Value) (w : World) (ha : IsA w w.heap.size va a) (hk : IsK w w.heap.size vk C) (hb : IsA w w.heap.size vb b) (hia : InA a) (hib : InA b) (hC : ∀ x ∈ C, In64 x) (hL : C.length ≤ maxLen) (he : Env w) :
    Calls Tryz.prog 19 #[va, vk, vb] w fun e w' => Below w.heap.size w w' ∧ ∃ v, e = .returned (.tuple #[v, .int .i64 (pasteR a C b).2]) ∧ IsA w' w'.heap.size v (pasteR a C b).1 := by
  obtain ⟨A, c, A', c', rfl, -, -⟩ := ha.form
  obtain ⟨Ak, ck, rfl, -⟩ := hk.form
  obtain ⟨Ab, cb, Ab', cb', rfl, -, -⟩ := hb.form
  obtain ⟨S, V⟩ := a
  obtain ⟨T, U⟩ := b
  obtain ⟨hS, hT⟩ := ha.parts
  obtain ⟨hSb, hTb⟩ := hb.parts
  simp only at hS hT hSb hTb
  simp only
  obtain ⟨qa, hqa⟩ : ∃ q : Bool, q = true ↔ VA (S, V) := by classical exact ⟨decide _, decide_eq_true_iff⟩
  obtain ⟨qb, hqb⟩ : ∃ q : Bool, q = true ↔ VA (T, U) := by classical exact ⟨decide _, decide_eq_true_iff⟩
  obtain ⟨qf, hqf⟩ : ∃ q : Bool, q = true ↔ Fit S C := by classical exact ⟨decide _, decide_eq_true_iff⟩
  have VVa := Lib.hid (fun W (hW : Below w.heap.size w W) => valid_any (S, V) (.agg #[.slice A S.length c, .slice A' V.length c']) W (ha.next hW) hia (he.next hW) qa hqa)
  have VVb := Lib.hid (fun W (hW : Below w.heap.size w W) => valid_any (T, U) (.agg #[.slice Ab T.length cb, .slice Ab' U.length cb']) W (hb.next hW) hib (he.next hW) qb hqb)
  have B0 := BxW.start4 w 25 26 25 25 #[.slice A S.length c, .slice A' V.length c'] #[.slice Ak C.length ck] #[.slice Ab T.length cb, .slice Ab' U.length cb'] #[.slice none 0 0, .slice none 0 0]
  cases hva : qa
  · have hno : ¬ (VA (S, V) ∧ VA (T, U)) := fun h => by rw [hqa.2 h.1] at hva; cases hva
    rw [pasteR_shape hno]
    subst hva
    clear hqa hqb hqf hno ha hb hk hS hT hSb hTb hia hib
    go_enter Tryz.func19, Tryz.ntmps19
    go_wp2_with fail
    generalize ((((w.alloc (.cells #[.slice A S.length c, .slice A' V.length c'] 25)).alloc (.cells #[.slice Ak C.length ck] 26)).alloc (.cells #[.slice Ab T.length cb, .slice Ab' U.length cb'] 25)).alloc (.cells #[.slice none 0 0, .slice none 0 0] 25)) = W0 at *
    refine (VVa.out W0 B0.below).mono ?_
    rintro e w1 ⟨hb1, rfl⟩
    have B1 := B0.next hb1
    obtain ⟨d0, d1⟩ := bkA B1.four
    have f0 := B1.four.frozen 0
    have f1 := B1.four.frozen 1
    go_wp2
    refine bodyPost_ret (v := .tuple #[.agg #[.slice none 0 0, .slice none 0 0], .int .i64 60]) (by simp [results, Tryz.results19, go_sem, d0, d1]) rfl ?_
    exact ⟨(B1.below.setCell (p := ⟨w.heap.size + 3, 0, none⟩) (by simp) _).setCell (p := ⟨w.heap.size + 3, 1, none⟩) (by simp) _, _, rfl, IsA.zero _ _⟩
  have ya := hqa.1 hva
  subst hva
  cases hvb : qb
  · have hno : ¬ (VA (S, V) ∧ VA (T, U)) := fun h => by rw [hqb.2 h.2] at hvb; cases hvb
    rw [pasteR_shape hno]
    subst hvb
    clear hqa hqb hqf hno ha hb hk hS hT hSb hTb hia hib ya
    go_enter Tryz.func19, Tryz.ntmps19
    go_wp2_with fail
    generalize ((((w.alloc (.cells #[.slice A S.length c, .slice A' V.length c'] 25)).alloc (.cells #[.slice Ak C.length ck] 26)).alloc (.cells #[.slice Ab T.length cb, .slice Ab' U.length cb'] 25)).alloc (.cells #[.slice none 0 0, .slice none 0 0] 25)) = W0 at *
    refine (VVa.out W0 B0.below).mono ?_
    rintro e w1 ⟨hb1, rfl⟩
    have B1 := B0.next hb1
    obtain ⟨b0, b1⟩ := bkA B1.three
    go_wp2_with fail
    refine (VVb.out w1 B1.below).mono ?_
    rintro e w2 ⟨hb2, rfl⟩
    have B2 := B1.next hb2
    clear b0 b1
    obtain ⟨d0, d1⟩ := bkA B2.four
    have f0 := B2.four.frozen 0
    have f1 := B2.four.frozen 1
    go_wp2
    refine bodyPost_ret (v := .tuple #[.agg #[.slice none 0 0, .slice none 0 0], .int .i64 60]) (by simp [results, Tryz.results19, go_sem, d0, d1]) rfl ?_
    exact ⟨(B2.below.setCell (p := ⟨w.heap.size + 3, 0, none⟩) (by simp) _).setCell (p := ⟨w.heap.size + 3, 1, none⟩) (by simp) _, _, rfl, IsA.zero _ _⟩
  have yb := hqb.1 hvb
  subst hvb
  have hVS : VS S := ya.1
  have FF := Lib.hid (fun W (hW : Below w.heap.size w W) => fits_any C S Ak A ck c W ((hk.below hW).more hW.size).rd ((hS.below hW).more hW.size).rd hVS.2.1 hC hL qf hqf)
  cases hf : qf
  · have hno : ¬ Fit S C := fun h => by rw [hqf.2 h] at hf; cases hf
    rw [pasteR_slab ⟨ya, yb⟩ hno]
    subst hf
    clear hqa hqb hqf hno ha hb hk hS hT hSb hTb hia hib ya yb hVS
    go_enter Tryz.func19, Tryz.ntmps19
    go_wp2_with fail
    generalize ((((w.alloc (.cells #[.slice A S.length c, .slice A' V.length c'] 25)).alloc (.cells #[.slice Ak C.length ck] 26)).alloc (.cells #[.slice Ab T.length cb, .slice Ab' U.length cb'] 25)).alloc (.cells #[.slice none 0 0, .slice none 0 0] 25)) = W0 at *
    refine (VVa.out W0 B0.below).mono ?_
    rintro e w1 ⟨hb1, rfl⟩
    have B1 := B0.next hb1
    obtain ⟨b0, b1⟩ := bkA B1.three
    go_wp2_with fail
    refine (VVb.out w1 B1.below).mono ?_
    rintro e w2 ⟨hb2, rfl⟩
    have B2 := B1.next hb2
    clear b0 b1
    obtain ⟨a0, a1⟩ := bkA B2.one
    have s0 : w2.cell? ⟨w.heap.size + 1, 0, none⟩ = some (Value.slice Ak C.length ck) := B2.two.cell 0
    go_wp2_with fail
    refine (FF.out w2 B2.below).mono ?_
    rintro e w3 ⟨hb3, rfl⟩
    have B3 := B2.next hb3
    clear a0 a1 s0
    obtain ⟨d0, d1⟩ := bkA B3.four
    have f0 := B3.four.frozen 0
    have f1 := B3.four.frozen 1
    go_wp2
    refine bodyPost_ret (v := .tuple #[.agg #[.slice none 0 0, .slice none 0 0], .int .i64 61]) (by simp [results, Tryz.results19, go_sem, d0, d1]) rfl ?_
    exact ⟨(B3.below.setCell (p := ⟨w.heap.size + 3, 0, none⟩) (by simp) _).setCell (p := ⟨w.heap.size + 3, 1, none⟩) (by simp) _, _, rfl, IsA.zero _ _⟩
  have hF := hqf.1 hf
  subst hf
  by_cases hte : T = cntI C
  · subst hte
    rw [pasteR_ok ⟨ya, yb⟩ hF rfl]
    exact paste_good S V U C A A' Ak Ab Ab' c c' ck cb cb' w ha hk hb hia hib hC he ya yb hF
  rw [pasteR_other ⟨ya, yb⟩ hF hte]
  have hlC := fit_len hF
  have hS4 := hVS.1
  have CN := Lib.hid (fun W (hW : Below w.heap.size w W) => counts_any C Ak ck W ((hk.below hW).more hW.size).rd (by omega))
  have EQ := Lib.hid (fun W (hW : Below w.heap.size w W) (A9 : Option Addr) (c9 : Nat) (h9 : IsI W W.heap.size (.slice A9 (cntI C).length c9) (cntI C)) => equalz_any T (cntI C) Ab A9 cb c9 w.heap.size W.heap.size W (hSb.rd.below hW) h9.rd hW.size (Nat.le_refl _) hib.shape false (by simp [hte]))
  clear hqa hqb hqf hte ha hb hk hS hT hSb hTb hia hib ya yb hVS hF hlC
  go_enter Tryz.func19, Tryz.ntmps19
  go_wp2_with fail
  generalize ((((w.alloc (.cells #[.slice A S.length c, .slice A' V.length c'] 25)).alloc (.cells #[.slice Ak C.length ck] 26)).alloc (.cells #[.slice Ab T.length cb, .slice Ab' U.length cb'] 25)).alloc (.cells #[.slice none 0 0, .slice none 0 0] 25)) = W0 at *
  refine (VVa.out W0 B0.below).mono ?_
  rintro e w1 ⟨hb1, rfl⟩
  have B1 := B0.next hb1
  obtain ⟨b0, b1⟩ := bkA B1.three
  go_wp2_with fail
  refine (VVb.out w1 B1.below).mono ?_
  rintro e w2 ⟨hb2, rfl⟩
  have B2 := B1.next hb2
  clear b0 b1
  obtain ⟨a0, a1⟩ := bkA B2.one
  have s0 : w2.cell? ⟨w.heap.size + 1, 0, none⟩ = some (Value.slice Ak C.length ck) := B2.two.cell 0
  go_wp2_with fail
  refine (FF.out w2 B2.below).mono ?_
  rintro e w3 ⟨hb3, rfl⟩
  have B3 := B2.next hb3
  clear a0 a1 s0
  obtain ⟨b0, b1⟩ := bkA B3.three
  have s0 : w3.cell? ⟨w.heap.size + 1, 0, none⟩ = some (Value.slice Ak C.length ck) := B3.two.cell 0
  go_wp2_with fail
  refine wp_region_held_drew (S := fun Y => ((Y.cell? ⟨w.heap.size + 2, 0, none⟩ = some (.slice Ab T.length cb) ∧ Y.cell? ⟨w.heap.size + 2, 1, none⟩ = some (.slice Ab' U.length cb')) ∧ Y.cell? ⟨w.heap.size + 1, 0, none⟩ = some (.slice Ak C.length ck)) ∧ Below w.heap.size w Y) (by kernel_rfl) ⟨⟨⟨b0, b1⟩, s0⟩, B3.below.drew⟩ (fun hS => ?_)
  clear b0 b1 s0
  have B3d := B3.drew
  clear B3
  refine takeA (i := 0) (v := ?_) rfl (by kernel_rfl) (by kernel_rfl) (by kernel_rfl) (fun _ _ _ h => h) (by rfl) (by assumption) ?_ ?_
  rotate_left
  · intro w hSw; (try dsimp only at hSw); go_simp <;> with_reducible rfl
  try simp only [Act.put, List.setIfInBounds_toArray, List.set_cons_zero, List.set_cons_succ]
  refine takeA (i := 1) (v := ?_) rfl (by kernel_rfl) (by kernel_rfl) (by kernel_rfl) (fun _ _ _ h => h) (by rfl) (by assumption) ?_ ?_
  rotate_left
  · intro w hSw; (try dsimp only at hSw); go_simp <;> with_reducible rfl
  try simp only [Act.put, List.setIfInBounds_toArray, List.set_cons_zero, List.set_cons_succ]
  refine takeA (i := 2) (v := ?_) rfl (by kernel_rfl) (by kernel_rfl) (by kernel_rfl) (fun _ _ _ h => h) (by rfl) (by assumption) ?_ ?_
  rotate_left
  · intro w hSw; (try dsimp only at hSw); go_simp <;> with_reducible rfl
  try simp only [Act.put, List.setIfInBounds_toArray, List.set_cons_zero, List.set_cons_succ]
  refine stepA (i := 3) rfl (by kernel_rfl) (fun K0 hK0 => ?_)
  go_simp
  refine (CN.out _ B3d.below).mono ?_
  rintro e w4 ⟨hb4, v9, rfl, hown⟩
  have B4 := B3d.next hb4
  have hI9 := IsI.of_own hown
  obtain ⟨A7, c7, e9, -⟩ := hI9.form
  subst e9
  dsimp only
  refine hK0.out _ _ ⟨⟨bkA B4.three, B4.two.cell 0⟩, B4.below⟩ (fun hS4' => ?_)
  clear hK0 K0 hS hown hb4 B3d CN
  try simp only [Act.put, List.setIfInBounds_toArray, List.set_cons_zero, List.set_cons_succ]
  have EQ4 := Lib.hid (EQ.out w4 B4.below A7 c7 hI9)
  clear hI9
  refine stepA (i := 4) rfl (by kernel_rfl) (fun K0 hK0 => ?_)
  go_simp
  refine EQ4.out.mono ?_
  rintro e w5 ⟨hb5, rfl⟩
  have B5 := B4.next hb5
  dsimp only
  refine hK0.out _ _ ⟨⟨bkA B5.three, B5.two.cell 0⟩, B5.below⟩ (fun hS5 => ?_)
  clear hK0 K0 hS4' hb5 B4 EQ4 EQ
  try simp only [Act.put, List.setIfInBounds_toArray, List.set_cons_zero, List.set_cons_succ]
  refine takeA (i := 5) (v := ?_) rfl (by kernel_rfl) (by kernel_rfl) (by kernel_rfl) (fun _ _ _ h => h) (by rfl) (by assumption) ?_ ?_
  rotate_left
  · intro w hSw; (try dsimp only at hSw); go_simp <;> with_reducible rfl
  try simp only [Act.put, List.setIfInBounds_toArray, List.set_cons_zero, List.set_cons_succ]
  refine takeA (i := 6) (v := ?_) rfl (by kernel_rfl) (by kernel_rfl) (by kernel_rfl) (fun _ _ _ h => h) (by rfl) (by assumption) ?_ ?_
  rotate_left
  · intro w hSw; (try dsimp only at hSw); go_simp <;> with_reducible rfl
  try simp only [Act.put, List.setIfInBounds_toArray, List.set_cons_zero, List.set_cons_succ]
  refine wpAnyH_done (by kernel_rfl) ?_ _
  clear hS5
  obtain ⟨d0, d1⟩ := bkA B5.four
  have f0 := B5.four.frozen 0
  have f1 := B5.four.frozen 1
  go_wp2
  refine bodyPost_ret (v := .tuple #[.agg #[.slice none 0 0, .slice none 0 0], .int .i64 60]) (by simp [results, Tryz.results19, go_sem, d0, d1]) rfl ?_
  exact ⟨(B5.below.setCell (p := ⟨w.heap.size + 3, 0, none⟩) (by simp) _).setCell (p := ⟨w.heap.size + 3, 1, none⟩) (by simp) _, _, rfl, IsA.zero _ _⟩
end Go.Proofs.YtgnffedncjjkfaaGreatDoor

namespace Go.Proofs.YtgnffedncjjkfaaGreatDoor
open Go.RowKit Ix Ar

/-- An append at an operation of a region, from whatever source. -/
theorem step_appendA {P : Program} {w : World} {o : Oper} {a : Act} {K : Act → World → Prop} {Q : Exit → Act → World → Prop} (s x : Operand) (t : TypeId)
    (ho : o.op = .call { callee := .builtin .append, args := #[s, x], argTypes := #[t, t] })
    (base : Nat) (e : TypeId) (i : TypeInfo) (z : Value) (size bytes : Nat) (ht : P.underlying t = some (.slice e)) (hi : P.info? e = some i) (hz : i.zero = some z)
    (hsize : i.size = size) (hby : i.bytes = bytes) (hzs : z.cells.size = size) (hsz : 0 < size)
    (v : Value) (n : Nat) (xs : List Value) (hs : a.eval s = v) (hown : w.ownsRow base e size v n xs)
    (A : Option Addr) (m c : Nat) (news : List Value) (hx : a.eval x = .slice A m c) (hl : news.length = m * size) {Br : Nat} (hr : Rd w Br A news) (h1 : ∀ u ∈ news, u.oneCell' = true)
    (h63 : n + m ≤ maxLen) (hbytes : (n + m) * bytes ≤ 140737488355328) (hbase : base ≤ w.heap.size)
    (h : ∀ v' w', w'.ownsRow base e size v' (n + m) (xs ++ news) → w.grownBy w' v.ownBlock → (v'.ownBlock = v.ownBlock ∨ v'.ownBlock = some w.heap.size) → K (a.put o.dst v') w') :
    Oper.wp P o a w K Q := by
  rcases A with _ | ad
  · have hn : news = [] := by
      rcases Classical.em (news = []) with h0 | h0
      · exact h0
      · obtain ⟨_, h2, _⟩ := hr h0
        cases h2
    subst hn
    have hm : m = 0 := by
      rcases Nat.eq_zero_or_pos m with h0 | h0
      · exact h0
      · have := Nat.mul_pos h0 hsz; simp at hl; omega
    subst hm
    unfold Oper.wp execOp
    simp only [ho, resolve, invoke, builtin, Sem.run_bind, Sem.run_pure, Result.andThen_ok, List.map_toArray, List.map_cons, List.map_nil, hs, hx, append_none w base t o.type e i size ht hi v n xs hown c]
    exact h v w (by simpa using hown) (World.grownBy.refl w _) (.inl rfl)
  · have hcells : ∀ j u, news[j]? = some u → w.cell? (ad.add j) = some u := by
      intro j u hu
      obtain ⟨ad', h2, _, hc⟩ := hr (by rintro rfl; simp at hu)
      injection h2 with h2
      subst h2
      exact hc j u hu
    obtain ⟨v', w', hr, h2, h3, _, h5⟩ := run_append_own_at (P := P) w base t o.type e i z size bytes ht hi hz hsize hby hzs hsz v n xs hown ad m c news hl hcells h1 h63 hbytes hbase
    unfold Oper.wp execOp
    simp only [ho, resolve, invoke, builtin, Sem.run_bind, Sem.run_pure, Result.andThen_ok, List.map_toArray, List.map_cons, List.map_nil, hs, hx, hr]
    exact h v' w' h2 h3 h5
theorem BxW.grown {w W W' : World} {ks : List Bx} (h : BxW w ks W) {row : Option Nat} (hg : W.grownBy W' row) (hr : ∀ r, row = some r → w.heap.size ≤ r ∧ ∀ p ∈ ks, p.1 ≠ r) : BxW w ks W' :=
  ⟨h.below.grown hg h.below.size (fun r e => (hr r e).1), fun p hp => (h.keep p hp).grown hg (fun e => (hr p.1 e.symm).2 p hp rfl)⟩
theorem PsAt.made {w W : World} {base ob : Nat} {ks : List Bx} {sv vv : Value} {S : List Int} {V : List ByteArray} (B : BxW w ks W) (kb : Bk W ob 25 #[.slice none 0 0, .slice none 0 0]) (hI : IsI W W.heap.size sv S) (own : W.ownsRow base 9 1 vv V.length (strs V)) (hbase : w.heap.size ≤ base)
    (hk : ∀ p ∈ ks, p.1 < base) (hk2 : ∀ p ∈ ks, p.1 < ob) (hne : ∀ g, vv.ownBlock = some g → g ≠ ob) (hob : w.heap.size ≤ ob) :
    PsAt w ((W.setCell ⟨ob, 0, none⟩ sv).setCell ⟨ob, 1, none⟩ vv).heap.size base (ks ++ [(ob, 25, #[sv, vv])]) sv vv S V ((W.setCell ⟨ob, 0, none⟩ sv).setCell ⟨ob, 1, none⟩ vv) := by
  have e0 : ((W.setCell ⟨ob, 0, none⟩ sv).setCell ⟨ob, 1, none⟩ vv).heap.size = W.heap.size := by rw [sz_setCell, sz_setCell]
  rw [e0]
  obtain ⟨d0, d1⟩ := bkA kb
  have k1 := (kb.put 0 sv).put 1 vv
  refine ⟨(B.below.setCell (p := ⟨ob, 0, none⟩) hob _).setCell (p := ⟨ob, 1, none⟩) hob _, fun q hq => ?_, OwnsRow_far (OwnsRow_far own (fun e => hne ob e rfl) _) (fun e => hne ob e rfl) _, ?_, by rw [sz_setCell, sz_setCell]; exact Nat.le_refl _, B.below.size, hbase, fun q hq => ?_, fun g e => ⟨(own.lt g e).2, fun q hq => ?_⟩⟩
  · rcases List.mem_append.1 hq with h1 | h1
    · exact ((B.keep q h1).far (by have := hk2 q h1; show q.1 ≠ ob; omega) _).far (by have := hk2 q h1; show q.1 ≠ ob; omega) _
    · simp at h1; subst h1; simpa using k1
  · obtain ⟨A, c, e, l1, r1⟩ := hI
    exact ⟨A, c, e, l1, (r1.put_out d0 (slice_out _ _ _ _) _).put_out ((World.cell?_setCell_other W ⟨ob, 0, none⟩ ⟨ob, 1, none⟩ _ (fun e => by cases e)).trans d1) (slice_out _ _ _ _) _⟩
  · rcases List.mem_append.1 hq with h1 | h1
    · exact (B.keep q h1).lt
    · simp at h1; subst h1; exact kb.lt
  · rcases List.mem_append.1 hq with h1 | h1
    · have := (own.lt g e).1; have := hk q h1; omega
    · simp at h1; subst h1; exact fun e2 => hne g e e2.symm

set_option maxRecDepth 100000 in
set_option maxHeartbeats 12800000 in
theorem rpaste_good (S : List Int) (V U : List ByteArray) (C : List Cut) (A A' Ak Ab Ab' : Option Addr) (c c' ck cb cb' : Nat) (w : World) (ha : IsA w w.heap.size (.agg #[.slice A S.length c, .slice A' V.length c']) (S, V)) (hk : IsK w w.heap.size (.slice Ak C.length ck) C)
    (hb : IsA w w.heap.size (.agg #[.slice Ab (cntI C).length cb, .slice Ab' U.length cb']) (cntI C, U)) (hia : InA (S, V)) (hib : InA (cntI C, U)) (hC : ∀ x ∈ C, In64 x) (va : VA (S, V)) (vb : VA (cntI C, U)) (hF : Fit S C) :
    Calls Tryz.prog 20 #[.agg #[.slice A S.length c, .slice A' V.length c'], .slice Ak C.length ck, .agg #[.slice Ab (cntI C).length cb, .slice Ab' U.length cb']] w fun e w' => Below w.heap.size w w' ∧ ∃ v, e = .returned (.tuple #[v, .int .i64 0]) ∧ IsA w' w'.heap.size v (S, paste (S.map Int.toNat) C V U ⟨#[]⟩ (Ix.prod (cnt C))) := by
  obtain ⟨i0, hi0, hz0, hz1, hz2⟩ := info_parts Tryz.str_info
  obtain ⟨hS, hT⟩ := ha.parts
  obtain ⟨hSb, hTb⟩ := hb.parts
  simp only at hS hT hSb hTb
  have hVS : VS S := va.1
  have hl : V.length = Ix.prod (S.map Int.toNat) := va.2.1
  have hlC := fit_len hF
  have hS4 := hVS.1
  have hC4 : C.length ≤ 4 := by omega
  have hCV : VS (cntI C) := vb.1
  have hVl : V.length ≤ 4096 := by have := hVS.2.2; omega
  have hzc : zints (cntI C) = ints .i64 (cnt C) := by rw [hCV.cells, cntI_nat]
  have hsz : Sz4 (cnt C) := by have := hCV.sz; rwa [cntI_nat] at this
  have hcl : (cnt C).length = C.length := by unfold cnt; rw [List.length_map]
  have hci : (cntI C).length = C.length := cntI_len C
  obtain ⟨N, hN⟩ : ∃ N, N = Ix.prod (cnt C) := ⟨_, rfl⟩
  have hN2 : N ≤ 4096 := by rw [hN, ← cntI_nat]; exact hCV.2.2
  have hlU : U.length = N := by rw [hN, ← cntI_nat]; exact vb.2.1
  rw [hci]
  rw [hci] at hb hSb
  have VVa := Lib.hid (fun W (hW : Below w.heap.size w W) => rarr_any (S, V) (.agg #[.slice A S.length c, .slice A' V.length c']) W (ha.next hW) hia true (by simp [va]))
  have VVb := Lib.hid (fun W (hW : Below w.heap.size w W) => rarr_any (cntI C, U) (.agg #[.slice Ab C.length cb, .slice Ab' U.length cb']) W (by have := hb.next hW; exact this) hib true (by simp [vb]))
  have FF := Lib.hid (fun W (hW : Below w.heap.size w W) => rfits_any C S Ak A ck c W ((hk.below hW).more hW.size).rd ((hS.below hW).more hW.size).rd hVS.2.1 hC (by unfold maxLen; omega) true (by simp [hF]))
  have CN := Lib.hid (fun W (hW : Below w.heap.size w W) => rcounts_any C Ak ck W ((hk.below hW).more hW.size).rd (by omega))
  have EQ := Lib.hid (fun W (hW : Below w.heap.size w W) (u : Value) (h9 : IsI W W.heap.size u (cntI C)) => sameshape_any (cntI C) (cntI C) (.slice Ab C.length cb) u W (hSb.next hW) h9 (by rw [hci]; unfold maxLen; omega) true (by simp))
  have CP := Lib.hid (fun W (hW : Below w.heap.size w W) => copied_any A S.length c S W rfl (by omega) ((hS.below hW).more hW.size).rd)
  have HTr := Lib.hid (fun W (hW : Below w.heap.size w W) => hT.rd.below hW)
  have HIN : Hid (∀ k, k < N → Inside (cnt C) (idx (cnt C) k)) := fun k hk => idx_inside _ k (by rw [← hN]; exact hk)
  have HIL : Hid (∀ k, (idx (cnt C) k).length = C.length) := fun k => by rw [idx_len, hcl]
  have IX := Lib.hid (fun (W : World) (hW : Below w.heap.size w W) (k : Nat) (hk : k < N) => rindex_any (cnt C) k Ab cb W hsz (by rw [← hN]; exact hk) (by rw [← hzc]; exact (hSb.rd.below hW).more hW.size))
  rw [hcl] at IX
  have TH := Lib.hid (fun (W : World) (hW : Below w.heap.size w W) (X k : Nat) (hk2 : k < N) (hX : Bk W X 3 (ints .i64 (idx (cnt C) k)).toArray) => show Calls Tryz.prog 70 #[.slice Ak C.length ck, .slice (some ⟨X, 0, none⟩) C.length C.length] W fun e w' => Below W.heap.size W w' ∧ e = .returned (.slice (some ⟨W.heap.size, 0, none⟩) C.length C.length) ∧ Bk w' W.heap.size 3 (ints .i64 (thr C (idx (cnt C) k))).toArray from by
    have h := rthrough_any C S (idx (cnt C) k) Ak (some ⟨X, 0, none⟩) ck C.length W ((hk.below hW).more hW.size).rd (by simpa using hX.rd) hF hVS.2.1 (HIN.out k hk2) (by omega) hC
    rw [HIL.out k] at h
    exact h)
  have PL := Lib.hid (fun (k : Nat) (hk2 : k < N) (X : Nat) (W : World) (hW : Below w.heap.size w W) (hX : Bk W X 3 (ints .i64 (thr C (idx (cnt C) k))).toArray) => show Calls Tryz.prog 69 #[.slice A S.length c, .slice (some ⟨X, 0, none⟩) C.length C.length] W fun e w' => Below W.heap.size W w' ∧ e = .returned (.int .i64 (place (S.map Int.toNat) (thr C (idx (cnt C) k)) : Nat)) from by
    have h := rplace_any (S.map Int.toNat) (thr C (idx (cnt C) k)) A (some ⟨X, 0, none⟩) c C.length w.heap.size W.heap.size W hVS.sz (thr_inside hF (HIN.out k hk2)) (by rw [← hVS.cells]; exact hS.rd.below hW) (by simpa using hX.rd) hW.size (Nat.le_refl _)
    rw [List.length_map, show Value.slice (some ⟨X, 0, none⟩) S.length C.length = .slice (some ⟨X, 0, none⟩) C.length C.length from by rw [hlC]] at h
    exact h)
  have HPL := Lib.hid (fun (k : Nat) (hk2 : k < N) => show place (S.map Int.toNat) (thr C (idx (cnt C) k)) < V.length from by rw [hl]; exact place_lt _ _ (thr_inside hF (HIN.out k hk2)))
  have HU := Lib.hid (fun (k : Nat) (hk2 : k < N) => show ∃ ad, Ab' = some ad ∧ ad.block < w.heap.size ∧ w.cell? (ad.add k) = some (.string (U.getD k ⟨#[]⟩)) from by
    obtain ⟨ad, e1, e2, e3⟩ := hTb.rd.str (j := k) (by rw [hlU]; exact hk2)
    exact ⟨ad, e1, e2, by rw [List.getD_eq_getElem?_getD, List.getElem?_eq_getElem (by rw [hlU]; exact hk2)]; exact e3⟩)
  have HN := Lib.hid hN
  have HUL := Lib.hid hlU
  have HCI := Lib.hid hci
  have B0 := BxW.start3 w 25 25 25 #[.slice A S.length c, .slice A' V.length c'] #[.slice Ab C.length cb, .slice Ab' U.length cb'] #[.slice none 0 0, .slice none 0 0]
  clear ha hk hb hS hT hSb hTb hVS hl hCV hzc hsz hcl hci va vb hF hia hib hN hC hlC hlU HIN HIL
  go_enter Tryz.func20, Tryz.ntmps20
  go_wp2_with fail
  generalize (((w.alloc (.cells #[.slice A S.length c, .slice A' V.length c'] 25)).alloc (.cells #[.slice Ab C.length cb, .slice Ab' U.length cb'] 25)).alloc (.cells #[.slice none 0 0, .slice none 0 0] 25)) = W0 at *
  refine (VVa.out W0 B0.below).mono ?_
  rintro e w1 ⟨hb1, rfl⟩
  have B1 := B0.next hb1
  obtain ⟨b0, b1⟩ := bkA B1.two
  go_wp2_with fail
  refine (VVb.out w1 B1.below).mono ?_
  rintro e w2 ⟨hb2, rfl⟩
  have B2 := B1.next hb2
  clear b0 b1 hb1 hb2 B0 B1 VVa VVb
  obtain ⟨a0, a1⟩ := bkA B2.one
  go_wp2_with fail
  refine (FF.out w2 B2.below).mono ?_
  rintro e w3 ⟨hb3, rfl⟩
  have B3 := B2.next hb3
  clear a0 a1 hb3 B2 FF
  obtain ⟨b0, b1⟩ := bkA B3.two
  go_wp2_with fail
  refine wp_region_held_drew (S := fun Y => (Y.cell? ⟨w.heap.size + 1, 0, none⟩ = some (.slice Ab C.length cb) ∧ Y.cell? ⟨w.heap.size + 1, 1, none⟩ = some (.slice Ab' U.length cb')) ∧ Below w.heap.size w Y) (by kernel_rfl) ⟨⟨b0, b1⟩, B3.below.drew⟩ (fun hS => ?_)
  clear b0 b1
  have B3d := B3.drew
  clear B3
  refine takeA (i := 0) (v := ?_) rfl (by kernel_rfl) (by kernel_rfl) (by kernel_rfl) (fun _ _ _ h => h) (by rfl) (by assumption) ?_ ?_
  rotate_left
  · intro w hSw; (try dsimp only at hSw); go_simp <;> with_reducible rfl
  try simp only [Act.put, List.setIfInBounds_toArray, List.set_cons_zero, List.set_cons_succ]
  refine takeA (i := 1) (v := ?_) rfl (by kernel_rfl) (by kernel_rfl) (by kernel_rfl) (fun _ _ _ h => h) (by rfl) (by assumption) ?_ ?_
  rotate_left
  · intro w hSw; (try dsimp only at hSw); go_simp <;> with_reducible rfl
  try simp only [Act.put, List.setIfInBounds_toArray, List.set_cons_zero, List.set_cons_succ]
  refine takeA (i := 2) (v := ?_) rfl (by kernel_rfl) (by kernel_rfl) (by kernel_rfl) (fun _ _ _ h => h) (by rfl) (by assumption) ?_ ?_
  rotate_left
  · intro w hSw; (try dsimp only at hSw); go_simp <;> with_reducible rfl
  try simp only [Act.put, List.setIfInBounds_toArray, List.set_cons_zero, List.set_cons_succ]
  refine stepA (i := 3) rfl (by kernel_rfl) (fun K0 hK0 => ?_)
  go_simp
  refine (CN.out _ B3d.below).mono ?_
  rintro e w4 ⟨hb4, rfl, hg4⟩
  have B4 := B3d.next hb4
  have hI9 := IsI.of_bk hg4
  rw [HCI.out] at hI9
  dsimp only
  refine hK0.out _ _ ⟨bkA B4.two, B4.below⟩ (fun hS4' => ?_)
  clear hK0 K0 hS hg4 hb4 CN
  try simp only [Act.put, List.setIfInBounds_toArray, List.set_cons_zero, List.set_cons_succ]
  have EQ4 := Lib.hid (EQ.out w4 B4.below _ hI9)
  clear hI9 EQ
  refine stepA (i := 4) rfl (by kernel_rfl) (fun K0 hK0 => ?_)
  go_simp
  refine EQ4.out.mono ?_
  rintro e w5 ⟨hb5, rfl⟩
  have B5' := B4.next hb5
  dsimp only
  refine hK0.out _ _ ⟨bkA B5'.two, B5'.below⟩ (fun hS5 => ?_)
  clear hK0 K0 hS4' hb5 B4 EQ4 B3d
  try simp only [Act.put, List.setIfInBounds_toArray, List.set_cons_zero, List.set_cons_succ]
  refine takeA (i := 5) (v := ?_) rfl (by kernel_rfl) (by kernel_rfl) (by kernel_rfl) (fun _ _ _ h => h) (by rfl) (by assumption) ?_ ?_
  rotate_left
  · intro w hSw; (try dsimp only at hSw); go_simp <;> with_reducible rfl
  try simp only [Act.put, List.setIfInBounds_toArray, List.set_cons_zero, List.set_cons_succ]
  refine wpAnyH_done (by kernel_rfl) ?_ _
  clear hS5
  obtain ⟨a0, a1⟩ := bkA B5'.one
  go_wp2_with fail
  go_cut [8] from 32 to 39 (fun x wx => ∃ ob base A9 c9 A8 c8, x = .pointer (some ⟨ob, 0, none⟩) ∧ PsAt w wx.heap.size base ([(w.heap.size, 25, #[.slice A S.length c, .slice A' V.length c']), (w.heap.size + 1, 25, #[.slice Ab C.length cb, .slice Ab' U.length cb']), (w.heap.size + 2, 25, #[.slice none 0 0, .slice none 0 0])] ++ [(ob, 25, #[.slice A9 S.length c9, .slice A8 V.length c8])]) (.slice A9 S.length c9) (.slice A8 V.length c8) S V wx ∧ w.heap.size ≤ ob)
  case first =>
    refine wp_region_held_drew (S := fun Y => (Y.cell? ⟨w.heap.size, 0, none⟩ = some (.slice A S.length c) ∧ Y.cell? ⟨w.heap.size, 1, none⟩ = some (.slice A' V.length c')) ∧ Below w.heap.size w Y) (by kernel_rfl) ⟨⟨a0, a1⟩, B5'.below.drew⟩ (fun hS => ?_)
    clear a0 a1
    have B := B5'.drew
    clear B5'
    generalize w5.drew = w5d at *
    refine takeA (i := 0) (v := ?_) rfl (by kernel_rfl) (by kernel_rfl) (by kernel_rfl) (fun _ _ _ h => h) (by rfl) (by assumption) ?_ ?_
    rotate_left
    · intro w hSw; (try dsimp only at hSw); go_simp <;> with_reducible rfl
    try simp only [Act.put, List.setIfInBounds_toArray, List.set_cons_zero, List.set_cons_succ]
    refine takeA (i := 1) (v := ?_) rfl (by kernel_rfl) (by kernel_rfl) (by kernel_rfl) (fun _ _ _ h => h) (by rfl) (by assumption) ?_ ?_
    rotate_left
    · intro w hSw; (try dsimp only at hSw); go_simp <;> with_reducible rfl
    try simp only [Act.put, List.setIfInBounds_toArray, List.set_cons_zero, List.set_cons_succ]
    refine takeA (i := 4) (v := ?_) rfl (by kernel_rfl) (by kernel_rfl) (by kernel_rfl) (fun _ _ _ h => h) (by rfl) (by assumption) ?_ ?_
    rotate_left
    · intro w hSw; (try dsimp only at hSw); go_simp <;> with_reducible rfl
    try simp only [Act.put, List.setIfInBounds_toArray, List.set_cons_zero, List.set_cons_succ]
    refine takeA (i := 5) (v := ?_) rfl (by kernel_rfl) (by kernel_rfl) (by kernel_rfl) (fun _ _ _ h => h) (by rfl) (by assumption) ?_ ?_
    rotate_left
    · intro w hSw; (try dsimp only at hSw); go_simp <;> with_reducible rfl
    try simp only [Act.put, List.setIfInBounds_toArray, List.set_cons_zero, List.set_cons_succ]
    refine stepA3 (i := 2) (j := 3) (k := 8) rfl rfl rfl (by kernel_rfl) (fun K0 hK0 => ?_) (fun K0 hK0 => ?_) (fun K0 hK0 => ?_)
    · go_simp
      refine (CP.out _ B.below).mono ?_
      rintro e wn2 ⟨hbc, v9, rfl, own9⟩
      obtain ⟨A9, c9, rfl⟩ := own_formV own9
      replace B := B.next hbc
      try dsimp only
      refine hK0.out _ _ ⟨bkA B.one, B.below⟩ (fun hS => ?_)
      clear hK0 K0
      try simp only [Act.put, List.setIfInBounds_toArray, List.set_cons_zero, List.set_cons_succ]
      clear hbc
      refine stepA2 (i := 3) (j := 8) rfl rfl (by kernel_rfl) (fun K0 hK0 => ?_) (fun K0 hK0 => ?_)
      · go_simp
        have own0 := World.ownsRow_made (base := wn2.heap.size) (e := 9) (size := 1) wn2 #[] 0 (Nat.le_refl _) (by unfold maxLen; omega) rfl
        have leb : ∀ p ∈ ([(w.heap.size, 25, #[.slice A S.length c, .slice A' V.length c']), (w.heap.size + 1, 25, #[.slice Ab C.length cb, .slice Ab' U.length cb']), (w.heap.size + 2, 25, #[.slice none 0 0, .slice none 0 0])] : List Bx), p.1 < wn2.heap.size := fun p hp => (B.keep p hp).lt
        have web := B.below.size
        have ne9 : ∀ g, (Value.slice A9 S.length c9).ownBlock = some g → g ≠ wn2.heap.size := fun g h => Nat.ne_of_lt (own9.lt g h).2
        replace own9 := own9.alloc (.cells #[] 9)
        replace B := B.next (below_alloc wn2 (.cells #[] 9))
        try dsimp only
        refine hK0.out _ _ ⟨bkA B.one, B.below⟩ (fun hS => ?_)
        clear hK0 K0
        try simp only [Act.put, List.setIfInBounds_toArray, List.set_cons_zero, List.set_cons_succ]
        generalize wn2.alloc (.cells #[] 9) = wal3 at *
        generalize wn2.heap.size = eb at *
        refine stepA2 (i := 6) (j := 8) rfl rfl (by kernel_rfl) (fun K0 hK0 => ?_) (fun K0 hK0 => ?_)
        · rw [if_pos (by rfl)]
          refine step_appendA (.tmp 35) (.tmp 37) 23 rfl eb 9 i0 (.string ⟨#[]⟩) 1 16 Tryz.underlying23 hi0 hz0 hz1 hz2 rfl (by omega) (.slice (some ⟨eb, 0, none⟩) 0 0) 0 [] (by rfl) own0 A' V.length c' (strs V) (by rfl) (by rw [strs_len, Nat.mul_one]) (HTr.out wal3 B.below) (strs_one V) (by unfold maxLen; omega) (by omega) (by have := (own0.lt eb rfl).2; omega) ?_
          intro v8 wn6 own8 hg8 hat8
          rw [Nat.zero_add, List.nil_append] at own8
          obtain ⟨A8, c8, rfl⟩ := own_formV own8
          replace own9 := own9.kept hg8 (by cases h : (Value.slice A9 S.length c9).ownBlock with | none => exact .inl rfl | some g => exact .inr (fun e => by have := ne9 g h; simp [Value.ownBlock] at e; omega))
          replace B := B.grown hg8 (fun r e => by simp [Value.ownBlock] at e; subst e; exact ⟨web, fun p hp => Nat.ne_of_lt (leb p hp)⟩)
          try dsimp only
          refine hK0.out _ _ ⟨bkA B.one, B.below⟩ (fun hS => ?_)
          clear hK0 K0
          try simp only [Act.put, List.setIfInBounds_toArray, List.set_cons_zero, List.set_cons_succ]
          clear hg8 hat8 own0 ne9
          refine takeA (i := 7) (v := ?_) rfl (by kernel_rfl) (by kernel_rfl) (by kernel_rfl) (fun _ _ _ h => h) (by rfl) (by assumption) ?_ ?_
          rotate_left
          · intro w hSw; (try dsimp only at hSw); go_simp <;> with_reducible rfl
          try simp only [Act.put, List.setIfInBounds_toArray, List.set_cons_zero, List.set_cons_succ]
          refine stepA (i := 8) rfl (by kernel_rfl) (fun K0 hK0 => ?_)
          go_simp
          have kb := Bk.new wn6 25 #[Value.slice none 0 0, .slice none 0 0]
          have lob : ∀ p ∈ ([(w.heap.size, 25, #[.slice A S.length c, .slice A' V.length c']), (w.heap.size + 1, 25, #[.slice Ab C.length cb, .slice Ab' U.length cb']), (w.heap.size + 2, 25, #[.slice none 0 0, .slice none 0 0])] : List Bx), p.1 < wn6.heap.size := fun p hp => (B.keep p hp).lt
          have wob := B.below.size
          replace own9 := own9.alloc (.cells #[Value.slice none 0 0, .slice none 0 0] 25)
          have ne8 : ∀ g, (Value.slice A8 V.length c8).ownBlock = some g → g ≠ wn6.heap.size := fun g h => Nat.ne_of_lt (own8.lt g h).2
          replace own8 := own8.alloc (.cells #[Value.slice none 0 0, .slice none 0 0] 25)
          replace B := B.next (below_alloc wn6 (.cells #[Value.slice none 0 0, .slice none 0 0] 25))
          try dsimp only
          refine hK0.out _ _ ⟨bkA B.one, B.below⟩ (fun hS => ?_)
          clear hK0 K0
          try simp only [Act.put, List.setIfInBounds_toArray, List.set_cons_zero, List.set_cons_succ]
          generalize wn6.alloc (.cells #[Value.slice none 0 0, .slice none 0 0] 25) = wal8 at *
          generalize wn6.heap.size = ob at *
          have M := PsAt.made B kb (IsI.of_own own9) own8 web leb lob ne8 wob
          obtain ⟨k0, k1⟩ := bkA kb
          have fz0 := kb.frozen 0
          have fz1 := kb.frozen 1
          refine stepA (i := 9) rfl (by kernel_rfl) (fun K0 hK0 => ?_)
          go_simp
          refine hK0.out _ _ ⟨bkA (M.keep (w.heap.size, 25, #[.slice A S.length c, .slice A' V.length c']) (by simp)), M.below⟩ (fun hS9 => ?_)
          clear hK0 K0
          try simp only [Act.put, List.setIfInBounds_toArray, List.set_cons_zero, List.set_cons_succ]
          refine wpAnyH_done (by kernel_rfl) ?_ _
          go_wp2_with fail
          go_meet
          case rel => exact ⟨_, _, _, _, _, _, rfl, M, wob⟩
        · go_simp
          have kb := Bk.new wal3 25 #[Value.slice none 0 0, .slice none 0 0]
          have lob : ∀ p ∈ ([(w.heap.size, 25, #[.slice A S.length c, .slice A' V.length c']), (w.heap.size + 1, 25, #[.slice Ab C.length cb, .slice Ab' U.length cb']), (w.heap.size + 2, 25, #[.slice none 0 0, .slice none 0 0])] : List Bx), p.1 < wal3.heap.size := fun p hp => (B.keep p hp).lt
          have wob := B.below.size
          have neb : wal3.heap.size ≠ eb := fun e => by have := (own0.lt eb rfl).2; omega
          replace own0 := own0.alloc (.cells #[Value.slice none 0 0, .slice none 0 0] 25)
          replace own9 := own9.alloc (.cells #[Value.slice none 0 0, .slice none 0 0] 25)
          replace B := B.next (below_alloc wal3 (.cells #[Value.slice none 0 0, .slice none 0 0] 25))
          try dsimp only
          refine hK0.out _ _ ⟨bkA B.one, B.below⟩ (fun hS => ?_)
          clear hK0 K0
          try simp only [Act.put, List.setIfInBounds_toArray, List.set_cons_zero, List.set_cons_succ]
          generalize wal3.alloc (.cells #[Value.slice none 0 0, .slice none 0 0] 25) = wal8 at *
          generalize wal3.heap.size = ob at *
          refine stepA (i := 6) rfl (by kernel_rfl) (fun K0 hK0 => ?_)
          rw [if_pos (by rfl)]
          refine step_appendA (.tmp 35) (.tmp 37) 23 rfl eb 9 i0 (.string ⟨#[]⟩) 1 16 Tryz.underlying23 hi0 hz0 hz1 hz2 rfl (by omega) (.slice (some ⟨eb, 0, none⟩) 0 0) 0 [] (by rfl) own0 A' V.length c' (strs V) (by rfl) (by rw [strs_len, Nat.mul_one]) (HTr.out wal8 B.below) (strs_one V) (by unfold maxLen; omega) (by omega) (by have := (own0.lt eb rfl).2; omega) ?_
          intro v8 wn6 own8 hg8 hat8
          rw [Nat.zero_add, List.nil_append] at own8
          obtain ⟨A8, c8, rfl⟩ := own_formV own8
          replace own9 := own9.kept hg8 (by cases h : (Value.slice A9 S.length c9).ownBlock with | none => exact .inl rfl | some g => exact .inr (fun e => by have := ne9 g h; simp [Value.ownBlock] at e; omega))
          have ne8 : ∀ g, (Value.slice A8 V.length c8).ownBlock = some g → g ≠ ob := fun g h => by
            rcases hat8 with h1 | h1
            · rw [h] at h1; simp [Value.ownBlock] at h1; omega
            · rw [h] at h1; injection h1 with h1; have := kb.lt; omega
          replace kb := kb.grown hg8 (fun e => by simp [Value.ownBlock] at e; omega)
          replace B := B.grown hg8 (fun r e => by simp [Value.ownBlock] at e; subst e; exact ⟨web, fun p hp => Nat.ne_of_lt (leb p hp)⟩)
          try dsimp only
          refine hK0.out _ _ ⟨bkA B.one, B.below⟩ (fun hS => ?_)
          clear hK0 K0
          try simp only [Act.put, List.setIfInBounds_toArray, List.set_cons_zero, List.set_cons_succ]
          clear hg8 hat8 own0 ne9
          refine takeA (i := 7) (v := ?_) rfl (by kernel_rfl) (by kernel_rfl) (by kernel_rfl) (fun _ _ _ h => h) (by rfl) (by assumption) ?_ ?_
          rotate_left
          · intro w hSw; (try dsimp only at hSw); go_simp <;> with_reducible rfl
          try simp only [Act.put, List.setIfInBounds_toArray, List.set_cons_zero, List.set_cons_succ]
          have M := PsAt.made B kb (IsI.of_own own9) own8 web leb lob ne8 wob
          obtain ⟨k0, k1⟩ := bkA kb
          have fz0 := kb.frozen 0
          have fz1 := kb.frozen 1
          refine stepA (i := 9) rfl (by kernel_rfl) (fun K0 hK0 => ?_)
          go_simp
          refine hK0.out _ _ ⟨bkA (M.keep (w.heap.size, 25, #[.slice A S.length c, .slice A' V.length c']) (by simp)), M.below⟩ (fun hS9 => ?_)
          clear hK0 K0
          try simp only [Act.put, List.setIfInBounds_toArray, List.set_cons_zero, List.set_cons_succ]
          refine wpAnyH_done (by kernel_rfl) ?_ _
          go_wp2_with fail
          go_meet
          case rel => exact ⟨_, _, _, _, _, _, rfl, M, wob⟩
      · go_simp
        have kb := Bk.new wn2 25 #[Value.slice none 0 0, .slice none 0 0]
        have lob : ∀ p ∈ ([(w.heap.size, 25, #[.slice A S.length c, .slice A' V.length c']), (w.heap.size + 1, 25, #[.slice Ab C.length cb, .slice Ab' U.length cb']), (w.heap.size + 2, 25, #[.slice none 0 0, .slice none 0 0])] : List Bx), p.1 < wn2.heap.size := fun p hp => (B.keep p hp).lt
        have wob := B.below.size
        replace own9 := own9.alloc (.cells #[Value.slice none 0 0, .slice none 0 0] 25)
        replace B := B.next (below_alloc wn2 (.cells #[Value.slice none 0 0, .slice none 0 0] 25))
        try dsimp only
        refine hK0.out _ _ ⟨bkA B.one, B.below⟩ (fun hS => ?_)
        clear hK0 K0
        try simp only [Act.put, List.setIfInBounds_toArray, List.set_cons_zero, List.set_cons_succ]
        generalize wn2.alloc (.cells #[Value.slice none 0 0, .slice none 0 0] 25) = wal8 at *
        generalize wn2.heap.size = ob at *
        refine stepA (i := 3) rfl (by kernel_rfl) (fun K0 hK0 => ?_)
        go_simp
        have own0 := World.ownsRow_made (base := wal8.heap.size) (e := 9) (size := 1) wal8 #[] 0 (Nat.le_refl _) (by unfold maxLen; omega) rfl
        have leb : ∀ p ∈ ([(w.heap.size, 25, #[.slice A S.length c, .slice A' V.length c']), (w.heap.size + 1, 25, #[.slice Ab C.length cb, .slice Ab' U.length cb']), (w.heap.size + 2, 25, #[.slice none 0 0, .slice none 0 0])] : List Bx), p.1 < wal8.heap.size := fun p hp => (B.keep p hp).lt
        have web := B.below.size
        have ne9 : ∀ g, (Value.slice A9 S.length c9).ownBlock = some g → g ≠ wal8.heap.size := fun g h => Nat.ne_of_lt (own9.lt g h).2
        replace own9 := own9.alloc (.cells #[] 9)
        have neb := Nat.ne_of_lt kb.lt
        replace kb := kb.alloc (.cells #[] 9)
        replace B := B.next (below_alloc wal8 (.cells #[] 9))
        try dsimp only
        refine hK0.out _ _ ⟨bkA B.one, B.below⟩ (fun hS => ?_)
        clear hK0 K0
        try simp only [Act.put, List.setIfInBounds_toArray, List.set_cons_zero, List.set_cons_succ]
        generalize wal8.alloc (.cells #[] 9) = wal3 at *
        generalize wal8.heap.size = eb at *
        refine stepA (i := 6) rfl (by kernel_rfl) (fun K0 hK0 => ?_)
        rw [if_pos (by rfl)]
        refine step_appendA (.tmp 35) (.tmp 37) 23 rfl eb 9 i0 (.string ⟨#[]⟩) 1 16 Tryz.underlying23 hi0 hz0 hz1 hz2 rfl (by omega) (.slice (some ⟨eb, 0, none⟩) 0 0) 0 [] (by rfl) own0 A' V.length c' (strs V) (by rfl) (by rw [strs_len, Nat.mul_one]) (HTr.out wal3 B.below) (strs_one V) (by unfold maxLen; omega) (by omega) (by have := (own0.lt eb rfl).2; omega) ?_
        intro v8 wn6 own8 hg8 hat8
        rw [Nat.zero_add, List.nil_append] at own8
        obtain ⟨A8, c8, rfl⟩ := own_formV own8
        replace own9 := own9.kept hg8 (by cases h : (Value.slice A9 S.length c9).ownBlock with | none => exact .inl rfl | some g => exact .inr (fun e => by have := ne9 g h; simp [Value.ownBlock] at e; omega))
        have ne8 : ∀ g, (Value.slice A8 V.length c8).ownBlock = some g → g ≠ ob := fun g h => by
          rcases hat8 with h1 | h1
          · rw [h] at h1; simp [Value.ownBlock] at h1; omega
          · rw [h] at h1; injection h1 with h1; have := kb.lt; omega
        replace kb := kb.grown hg8 (fun e => by simp [Value.ownBlock] at e; omega)
        replace B := B.grown hg8 (fun r e => by simp [Value.ownBlock] at e; subst e; exact ⟨web, fun p hp => Nat.ne_of_lt (leb p hp)⟩)
        try dsimp only
        refine hK0.out _ _ ⟨bkA B.one, B.below⟩ (fun hS => ?_)
        clear hK0 K0
        try simp only [Act.put, List.setIfInBounds_toArray, List.set_cons_zero, List.set_cons_succ]
        clear hg8 hat8 own0 ne9
        refine takeA (i := 7) (v := ?_) rfl (by kernel_rfl) (by kernel_rfl) (by kernel_rfl) (fun _ _ _ h => h) (by rfl) (by assumption) ?_ ?_
        rotate_left
        · intro w hSw; (try dsimp only at hSw); go_simp <;> with_reducible rfl
        try simp only [Act.put, List.setIfInBounds_toArray, List.set_cons_zero, List.set_cons_succ]
        have M := PsAt.made B kb (IsI.of_own own9) own8 web leb lob ne8 wob
        obtain ⟨k0, k1⟩ := bkA kb
        have fz0 := kb.frozen 0
        have fz1 := kb.frozen 1
        refine stepA (i := 9) rfl (by kernel_rfl) (fun K0 hK0 => ?_)
        go_simp
        refine hK0.out _ _ ⟨bkA (M.keep (w.heap.size, 25, #[.slice A S.length c, .slice A' V.length c']) (by simp)), M.below⟩ (fun hS9 => ?_)
        clear hK0 K0
        try simp only [Act.put, List.setIfInBounds_toArray, List.set_cons_zero, List.set_cons_succ]
        refine wpAnyH_done (by kernel_rfl) ?_ _
        go_wp2_with fail
        go_meet
        case rel => exact ⟨_, _, _, _, _, _, rfl, M, wob⟩
    · go_simp
      have own0 := World.ownsRow_made (base := w5d.heap.size) (e := 9) (size := 1) w5d #[] 0 (Nat.le_refl _) (by unfold maxLen; omega) rfl
      have leb : ∀ p ∈ ([(w.heap.size, 25, #[.slice A S.length c, .slice A' V.length c']), (w.heap.size + 1, 25, #[.slice Ab C.length cb, .slice Ab' U.length cb']), (w.heap.size + 2, 25, #[.slice none 0 0, .slice none 0 0])] : List Bx), p.1 < w5d.heap.size := fun p hp => (B.keep p hp).lt
      have web := B.below.size
      replace B := B.next (below_alloc w5d (.cells #[] 9))
      try dsimp only
      refine hK0.out _ _ ⟨bkA B.one, B.below⟩ (fun hS => ?_)
      clear hK0 K0
      try simp only [Act.put, List.setIfInBounds_toArray, List.set_cons_zero, List.set_cons_succ]
      generalize w5d.alloc (.cells #[] 9) = wal3 at *
      generalize w5d.heap.size = eb at *
      refine stepA2 (i := 2) (j := 8) rfl rfl (by kernel_rfl) (fun K0 hK0 => ?_) (fun K0 hK0 => ?_)
      · go_simp
        refine (CP.out _ B.below).mono ?_
        rintro e wn2 ⟨hbc, v9, rfl, own9⟩
        obtain ⟨A9, c9, rfl⟩ := own_formV own9
        have ne9 : ∀ g, (Value.slice A9 S.length c9).ownBlock = some g → g ≠ eb := fun g h => by have := (own9.lt g h).1; have := (own0.lt eb rfl).2; omega
        replace own0 := own0.kept (grown_of_below hbc none) (.inr (by simp [Value.ownBlock]))
        replace B := B.next hbc
        try dsimp only
        refine hK0.out _ _ ⟨bkA B.one, B.below⟩ (fun hS => ?_)
        clear hK0 K0
        try simp only [Act.put, List.setIfInBounds_toArray, List.set_cons_zero, List.set_cons_succ]
        clear hbc
        refine stepA2 (i := 6) (j := 8) rfl rfl (by kernel_rfl) (fun K0 hK0 => ?_) (fun K0 hK0 => ?_)
        · rw [if_pos (by rfl)]
          refine step_appendA (.tmp 35) (.tmp 37) 23 rfl eb 9 i0 (.string ⟨#[]⟩) 1 16 Tryz.underlying23 hi0 hz0 hz1 hz2 rfl (by omega) (.slice (some ⟨eb, 0, none⟩) 0 0) 0 [] (by rfl) own0 A' V.length c' (strs V) (by rfl) (by rw [strs_len, Nat.mul_one]) (HTr.out wn2 B.below) (strs_one V) (by unfold maxLen; omega) (by omega) (by have := (own0.lt eb rfl).2; omega) ?_
          intro v8 wn6 own8 hg8 hat8
          rw [Nat.zero_add, List.nil_append] at own8
          obtain ⟨A8, c8, rfl⟩ := own_formV own8
          replace own9 := own9.kept hg8 (by cases h : (Value.slice A9 S.length c9).ownBlock with | none => exact .inl rfl | some g => exact .inr (fun e => by have := ne9 g h; simp [Value.ownBlock] at e; omega))
          replace B := B.grown hg8 (fun r e => by simp [Value.ownBlock] at e; subst e; exact ⟨web, fun p hp => Nat.ne_of_lt (leb p hp)⟩)
          try dsimp only
          refine hK0.out _ _ ⟨bkA B.one, B.below⟩ (fun hS => ?_)
          clear hK0 K0
          try simp only [Act.put, List.setIfInBounds_toArray, List.set_cons_zero, List.set_cons_succ]
          clear hg8 hat8 own0 ne9
          refine takeA (i := 7) (v := ?_) rfl (by kernel_rfl) (by kernel_rfl) (by kernel_rfl) (fun _ _ _ h => h) (by rfl) (by assumption) ?_ ?_
          rotate_left
          · intro w hSw; (try dsimp only at hSw); go_simp <;> with_reducible rfl
          try simp only [Act.put, List.setIfInBounds_toArray, List.set_cons_zero, List.set_cons_succ]
          refine stepA (i := 8) rfl (by kernel_rfl) (fun K0 hK0 => ?_)
          go_simp
          have kb := Bk.new wn6 25 #[Value.slice none 0 0, .slice none 0 0]
          have lob : ∀ p ∈ ([(w.heap.size, 25, #[.slice A S.length c, .slice A' V.length c']), (w.heap.size + 1, 25, #[.slice Ab C.length cb, .slice Ab' U.length cb']), (w.heap.size + 2, 25, #[.slice none 0 0, .slice none 0 0])] : List Bx), p.1 < wn6.heap.size := fun p hp => (B.keep p hp).lt
          have wob := B.below.size
          replace own9 := own9.alloc (.cells #[Value.slice none 0 0, .slice none 0 0] 25)
          have ne8 : ∀ g, (Value.slice A8 V.length c8).ownBlock = some g → g ≠ wn6.heap.size := fun g h => Nat.ne_of_lt (own8.lt g h).2
          replace own8 := own8.alloc (.cells #[Value.slice none 0 0, .slice none 0 0] 25)
          replace B := B.next (below_alloc wn6 (.cells #[Value.slice none 0 0, .slice none 0 0] 25))
          try dsimp only
          refine hK0.out _ _ ⟨bkA B.one, B.below⟩ (fun hS => ?_)
          clear hK0 K0
          try simp only [Act.put, List.setIfInBounds_toArray, List.set_cons_zero, List.set_cons_succ]
          generalize wn6.alloc (.cells #[Value.slice none 0 0, .slice none 0 0] 25) = wal8 at *
          generalize wn6.heap.size = ob at *
          have M := PsAt.made B kb (IsI.of_own own9) own8 web leb lob ne8 wob
          obtain ⟨k0, k1⟩ := bkA kb
          have fz0 := kb.frozen 0
          have fz1 := kb.frozen 1
          refine stepA (i := 9) rfl (by kernel_rfl) (fun K0 hK0 => ?_)
          go_simp
          refine hK0.out _ _ ⟨bkA (M.keep (w.heap.size, 25, #[.slice A S.length c, .slice A' V.length c']) (by simp)), M.below⟩ (fun hS9 => ?_)
          clear hK0 K0
          try simp only [Act.put, List.setIfInBounds_toArray, List.set_cons_zero, List.set_cons_succ]
          refine wpAnyH_done (by kernel_rfl) ?_ _
          go_wp2_with fail
          go_meet
          case rel => exact ⟨_, _, _, _, _, _, rfl, M, wob⟩
        · go_simp
          have kb := Bk.new wn2 25 #[Value.slice none 0 0, .slice none 0 0]
          have lob : ∀ p ∈ ([(w.heap.size, 25, #[.slice A S.length c, .slice A' V.length c']), (w.heap.size + 1, 25, #[.slice Ab C.length cb, .slice Ab' U.length cb']), (w.heap.size + 2, 25, #[.slice none 0 0, .slice none 0 0])] : List Bx), p.1 < wn2.heap.size := fun p hp => (B.keep p hp).lt
          have wob := B.below.size
          have neb : wn2.heap.size ≠ eb := fun e => by have := (own0.lt eb rfl).2; omega
          replace own0 := own0.alloc (.cells #[Value.slice none 0 0, .slice none 0 0] 25)
          replace own9 := own9.alloc (.cells #[Value.slice none 0 0, .slice none 0 0] 25)
          replace B := B.next (below_alloc wn2 (.cells #[Value.slice none 0 0, .slice none 0 0] 25))
          try dsimp only
          refine hK0.out _ _ ⟨bkA B.one, B.below⟩ (fun hS => ?_)
          clear hK0 K0
          try simp only [Act.put, List.setIfInBounds_toArray, List.set_cons_zero, List.set_cons_succ]
          generalize wn2.alloc (.cells #[Value.slice none 0 0, .slice none 0 0] 25) = wal8 at *
          generalize wn2.heap.size = ob at *
          refine stepA (i := 6) rfl (by kernel_rfl) (fun K0 hK0 => ?_)
          rw [if_pos (by rfl)]
          refine step_appendA (.tmp 35) (.tmp 37) 23 rfl eb 9 i0 (.string ⟨#[]⟩) 1 16 Tryz.underlying23 hi0 hz0 hz1 hz2 rfl (by omega) (.slice (some ⟨eb, 0, none⟩) 0 0) 0 [] (by rfl) own0 A' V.length c' (strs V) (by rfl) (by rw [strs_len, Nat.mul_one]) (HTr.out wal8 B.below) (strs_one V) (by unfold maxLen; omega) (by omega) (by have := (own0.lt eb rfl).2; omega) ?_
          intro v8 wn6 own8 hg8 hat8
          rw [Nat.zero_add, List.nil_append] at own8
          obtain ⟨A8, c8, rfl⟩ := own_formV own8
          replace own9 := own9.kept hg8 (by cases h : (Value.slice A9 S.length c9).ownBlock with | none => exact .inl rfl | some g => exact .inr (fun e => by have := ne9 g h; simp [Value.ownBlock] at e; omega))
          have ne8 : ∀ g, (Value.slice A8 V.length c8).ownBlock = some g → g ≠ ob := fun g h => by
            rcases hat8 with h1 | h1
            · rw [h] at h1; simp [Value.ownBlock] at h1; omega
            · rw [h] at h1; injection h1 with h1; have := kb.lt; omega
          replace kb := kb.grown hg8 (fun e => by simp [Value.ownBlock] at e; omega)
          replace B := B.grown hg8 (fun r e => by simp [Value.ownBlock] at e; subst e; exact ⟨web, fun p hp => Nat.ne_of_lt (leb p hp)⟩)
          try dsimp only
          refine hK0.out _ _ ⟨bkA B.one, B.below⟩ (fun hS => ?_)
          clear hK0 K0
          try simp only [Act.put, List.setIfInBounds_toArray, List.set_cons_zero, List.set_cons_succ]
          clear hg8 hat8 own0 ne9
          refine takeA (i := 7) (v := ?_) rfl (by kernel_rfl) (by kernel_rfl) (by kernel_rfl) (fun _ _ _ h => h) (by rfl) (by assumption) ?_ ?_
          rotate_left
          · intro w hSw; (try dsimp only at hSw); go_simp <;> with_reducible rfl
          try simp only [Act.put, List.setIfInBounds_toArray, List.set_cons_zero, List.set_cons_succ]
          have M := PsAt.made B kb (IsI.of_own own9) own8 web leb lob ne8 wob
          obtain ⟨k0, k1⟩ := bkA kb
          have fz0 := kb.frozen 0
          have fz1 := kb.frozen 1
          refine stepA (i := 9) rfl (by kernel_rfl) (fun K0 hK0 => ?_)
          go_simp
          refine hK0.out _ _ ⟨bkA (M.keep (w.heap.size, 25, #[.slice A S.length c, .slice A' V.length c']) (by simp)), M.below⟩ (fun hS9 => ?_)
          clear hK0 K0
          try simp only [Act.put, List.setIfInBounds_toArray, List.set_cons_zero, List.set_cons_succ]
          refine wpAnyH_done (by kernel_rfl) ?_ _
          go_wp2_with fail
          go_meet
          case rel => exact ⟨_, _, _, _, _, _, rfl, M, wob⟩
      · go_simp
        have kb := Bk.new wal3 25 #[Value.slice none 0 0, .slice none 0 0]
        have lob : ∀ p ∈ ([(w.heap.size, 25, #[.slice A S.length c, .slice A' V.length c']), (w.heap.size + 1, 25, #[.slice Ab C.length cb, .slice Ab' U.length cb']), (w.heap.size + 2, 25, #[.slice none 0 0, .slice none 0 0])] : List Bx), p.1 < wal3.heap.size := fun p hp => (B.keep p hp).lt
        have wob := B.below.size
        have neb : wal3.heap.size ≠ eb := fun e => by have := (own0.lt eb rfl).2; omega
        replace own0 := own0.alloc (.cells #[Value.slice none 0 0, .slice none 0 0] 25)
        replace B := B.next (below_alloc wal3 (.cells #[Value.slice none 0 0, .slice none 0 0] 25))
        try dsimp only
        refine hK0.out _ _ ⟨bkA B.one, B.below⟩ (fun hS => ?_)
        clear hK0 K0
        try simp only [Act.put, List.setIfInBounds_toArray, List.set_cons_zero, List.set_cons_succ]
        generalize wal3.alloc (.cells #[Value.slice none 0 0, .slice none 0 0] 25) = wal8 at *
        generalize wal3.heap.size = ob at *
        refine stepA (i := 2) rfl (by kernel_rfl) (fun K0 hK0 => ?_)
        go_simp
        refine (CP.out _ B.below).mono ?_
        rintro e wn2 ⟨hbc, v9, rfl, own9⟩
        obtain ⟨A9, c9, rfl⟩ := own_formV own9
        have ne9 : ∀ g, (Value.slice A9 S.length c9).ownBlock = some g → g ≠ eb := fun g h => by have := (own9.lt g h).1; have := (own0.lt eb rfl).2; omega
        replace own0 := own0.kept (grown_of_below hbc none) (.inr (by simp [Value.ownBlock]))
        replace kb := kb.next' hbc
        replace B := B.next hbc
        try dsimp only
        refine hK0.out _ _ ⟨bkA B.one, B.below⟩ (fun hS => ?_)
        clear hK0 K0
        try simp only [Act.put, List.setIfInBounds_toArray, List.set_cons_zero, List.set_cons_succ]
        clear hbc
        refine stepA (i := 6) rfl (by kernel_rfl) (fun K0 hK0 => ?_)
        rw [if_pos (by rfl)]
        refine step_appendA (.tmp 35) (.tmp 37) 23 rfl eb 9 i0 (.string ⟨#[]⟩) 1 16 Tryz.underlying23 hi0 hz0 hz1 hz2 rfl (by omega) (.slice (some ⟨eb, 0, none⟩) 0 0) 0 [] (by rfl) own0 A' V.length c' (strs V) (by rfl) (by rw [strs_len, Nat.mul_one]) (HTr.out wn2 B.below) (strs_one V) (by unfold maxLen; omega) (by omega) (by have := (own0.lt eb rfl).2; omega) ?_
        intro v8 wn6 own8 hg8 hat8
        rw [Nat.zero_add, List.nil_append] at own8
        obtain ⟨A8, c8, rfl⟩ := own_formV own8
        replace own9 := own9.kept hg8 (by cases h : (Value.slice A9 S.length c9).ownBlock with | none => exact .inl rfl | some g => exact .inr (fun e => by have := ne9 g h; simp [Value.ownBlock] at e; omega))
        have ne8 : ∀ g, (Value.slice A8 V.length c8).ownBlock = some g → g ≠ ob := fun g h => by
          rcases hat8 with h1 | h1
          · rw [h] at h1; simp [Value.ownBlock] at h1; omega
          · rw [h] at h1; injection h1 with h1; have := kb.lt; omega
        replace kb := kb.grown hg8 (fun e => by simp [Value.ownBlock] at e; omega)
        replace B := B.grown hg8 (fun r e => by simp [Value.ownBlock] at e; subst e; exact ⟨web, fun p hp => Nat.ne_of_lt (leb p hp)⟩)
        try dsimp only
        refine hK0.out _ _ ⟨bkA B.one, B.below⟩ (fun hS => ?_)
        clear hK0 K0
        try simp only [Act.put, List.setIfInBounds_toArray, List.set_cons_zero, List.set_cons_succ]
        clear hg8 hat8 own0 ne9
        refine takeA (i := 7) (v := ?_) rfl (by kernel_rfl) (by kernel_rfl) (by kernel_rfl) (fun _ _ _ h => h) (by rfl) (by assumption) ?_ ?_
        rotate_left
        · intro w hSw; (try dsimp only at hSw); go_simp <;> with_reducible rfl
        try simp only [Act.put, List.setIfInBounds_toArray, List.set_cons_zero, List.set_cons_succ]
        have M := PsAt.made B kb (IsI.of_own own9) own8 web leb lob ne8 wob
        obtain ⟨k0, k1⟩ := bkA kb
        have fz0 := kb.frozen 0
        have fz1 := kb.frozen 1
        refine stepA (i := 9) rfl (by kernel_rfl) (fun K0 hK0 => ?_)
        go_simp
        refine hK0.out _ _ ⟨bkA (M.keep (w.heap.size, 25, #[.slice A S.length c, .slice A' V.length c']) (by simp)), M.below⟩ (fun hS9 => ?_)
        clear hK0 K0
        try simp only [Act.put, List.setIfInBounds_toArray, List.set_cons_zero, List.set_cons_succ]
        refine wpAnyH_done (by kernel_rfl) ?_ _
        go_wp2_with fail
        go_meet
        case rel => exact ⟨_, _, _, _, _, _, rfl, M, wob⟩
    · go_simp
      have kb := Bk.new w5d 25 #[Value.slice none 0 0, .slice none 0 0]
      have lob : ∀ p ∈ ([(w.heap.size, 25, #[.slice A S.length c, .slice A' V.length c']), (w.heap.size + 1, 25, #[.slice Ab C.length cb, .slice Ab' U.length cb']), (w.heap.size + 2, 25, #[.slice none 0 0, .slice none 0 0])] : List Bx), p.1 < w5d.heap.size := fun p hp => (B.keep p hp).lt
      have wob := B.below.size
      replace B := B.next (below_alloc w5d (.cells #[Value.slice none 0 0, .slice none 0 0] 25))
      try dsimp only
      refine hK0.out _ _ ⟨bkA B.one, B.below⟩ (fun hS => ?_)
      clear hK0 K0
      try simp only [Act.put, List.setIfInBounds_toArray, List.set_cons_zero, List.set_cons_succ]
      generalize w5d.alloc (.cells #[Value.slice none 0 0, .slice none 0 0] 25) = wal8 at *
      generalize w5d.heap.size = ob at *
      refine stepA2 (i := 2) (j := 3) rfl rfl (by kernel_rfl) (fun K0 hK0 => ?_) (fun K0 hK0 => ?_)
      · go_simp
        refine (CP.out _ B.below).mono ?_
        rintro e wn2 ⟨hbc, v9, rfl, own9⟩
        obtain ⟨A9, c9, rfl⟩ := own_formV own9
        replace kb := kb.next' hbc
        replace B := B.next hbc
        try dsimp only
        refine hK0.out _ _ ⟨bkA B.one, B.below⟩ (fun hS => ?_)
        clear hK0 K0
        try simp only [Act.put, List.setIfInBounds_toArray, List.set_cons_zero, List.set_cons_succ]
        clear hbc
        refine stepA (i := 3) rfl (by kernel_rfl) (fun K0 hK0 => ?_)
        go_simp
        have own0 := World.ownsRow_made (base := wn2.heap.size) (e := 9) (size := 1) wn2 #[] 0 (Nat.le_refl _) (by unfold maxLen; omega) rfl
        have leb : ∀ p ∈ ([(w.heap.size, 25, #[.slice A S.length c, .slice A' V.length c']), (w.heap.size + 1, 25, #[.slice Ab C.length cb, .slice Ab' U.length cb']), (w.heap.size + 2, 25, #[.slice none 0 0, .slice none 0 0])] : List Bx), p.1 < wn2.heap.size := fun p hp => (B.keep p hp).lt
        have web := B.below.size
        have ne9 : ∀ g, (Value.slice A9 S.length c9).ownBlock = some g → g ≠ wn2.heap.size := fun g h => Nat.ne_of_lt (own9.lt g h).2
        replace own9 := own9.alloc (.cells #[] 9)
        have neb := Nat.ne_of_lt kb.lt
        replace kb := kb.alloc (.cells #[] 9)
        replace B := B.next (below_alloc wn2 (.cells #[] 9))
        try dsimp only
        refine hK0.out _ _ ⟨bkA B.one, B.below⟩ (fun hS => ?_)
        clear hK0 K0
        try simp only [Act.put, List.setIfInBounds_toArray, List.set_cons_zero, List.set_cons_succ]
        generalize wn2.alloc (.cells #[] 9) = wal3 at *
        generalize wn2.heap.size = eb at *
        refine stepA (i := 6) rfl (by kernel_rfl) (fun K0 hK0 => ?_)
        rw [if_pos (by rfl)]
        refine step_appendA (.tmp 35) (.tmp 37) 23 rfl eb 9 i0 (.string ⟨#[]⟩) 1 16 Tryz.underlying23 hi0 hz0 hz1 hz2 rfl (by omega) (.slice (some ⟨eb, 0, none⟩) 0 0) 0 [] (by rfl) own0 A' V.length c' (strs V) (by rfl) (by rw [strs_len, Nat.mul_one]) (HTr.out wal3 B.below) (strs_one V) (by unfold maxLen; omega) (by omega) (by have := (own0.lt eb rfl).2; omega) ?_
        intro v8 wn6 own8 hg8 hat8
        rw [Nat.zero_add, List.nil_append] at own8
        obtain ⟨A8, c8, rfl⟩ := own_formV own8
        replace own9 := own9.kept hg8 (by cases h : (Value.slice A9 S.length c9).ownBlock with | none => exact .inl rfl | some g => exact .inr (fun e => by have := ne9 g h; simp [Value.ownBlock] at e; omega))
        have ne8 : ∀ g, (Value.slice A8 V.length c8).ownBlock = some g → g ≠ ob := fun g h => by
          rcases hat8 with h1 | h1
          · rw [h] at h1; simp [Value.ownBlock] at h1; omega
          · rw [h] at h1; injection h1 with h1; have := kb.lt; omega
        replace kb := kb.grown hg8 (fun e => by simp [Value.ownBlock] at e; omega)
        replace B := B.grown hg8 (fun r e => by simp [Value.ownBlock] at e; subst e; exact ⟨web, fun p hp => Nat.ne_of_lt (leb p hp)⟩)
        try dsimp only
        refine hK0.out _ _ ⟨bkA B.one, B.below⟩ (fun hS => ?_)
        clear hK0 K0
        try simp only [Act.put, List.setIfInBounds_toArray, List.set_cons_zero, List.set_cons_succ]
        clear hg8 hat8 own0 ne9
        refine takeA (i := 7) (v := ?_) rfl (by kernel_rfl) (by kernel_rfl) (by kernel_rfl) (fun _ _ _ h => h) (by rfl) (by assumption) ?_ ?_
        rotate_left
        · intro w hSw; (try dsimp only at hSw); go_simp <;> with_reducible rfl
        try simp only [Act.put, List.setIfInBounds_toArray, List.set_cons_zero, List.set_cons_succ]
        have M := PsAt.made B kb (IsI.of_own own9) own8 web leb lob ne8 wob
        obtain ⟨k0, k1⟩ := bkA kb
        have fz0 := kb.frozen 0
        have fz1 := kb.frozen 1
        refine stepA (i := 9) rfl (by kernel_rfl) (fun K0 hK0 => ?_)
        go_simp
        refine hK0.out _ _ ⟨bkA (M.keep (w.heap.size, 25, #[.slice A S.length c, .slice A' V.length c']) (by simp)), M.below⟩ (fun hS9 => ?_)
        clear hK0 K0
        try simp only [Act.put, List.setIfInBounds_toArray, List.set_cons_zero, List.set_cons_succ]
        refine wpAnyH_done (by kernel_rfl) ?_ _
        go_wp2_with fail
        go_meet
        case rel => exact ⟨_, _, _, _, _, _, rfl, M, wob⟩
      · go_simp
        have own0 := World.ownsRow_made (base := wal8.heap.size) (e := 9) (size := 1) wal8 #[] 0 (Nat.le_refl _) (by unfold maxLen; omega) rfl
        have leb : ∀ p ∈ ([(w.heap.size, 25, #[.slice A S.length c, .slice A' V.length c']), (w.heap.size + 1, 25, #[.slice Ab C.length cb, .slice Ab' U.length cb']), (w.heap.size + 2, 25, #[.slice none 0 0, .slice none 0 0])] : List Bx), p.1 < wal8.heap.size := fun p hp => (B.keep p hp).lt
        have web := B.below.size
        have neb := Nat.ne_of_lt kb.lt
        replace kb := kb.alloc (.cells #[] 9)
        replace B := B.next (below_alloc wal8 (.cells #[] 9))
        try dsimp only
        refine hK0.out _ _ ⟨bkA B.one, B.below⟩ (fun hS => ?_)
        clear hK0 K0
        try simp only [Act.put, List.setIfInBounds_toArray, List.set_cons_zero, List.set_cons_succ]
        generalize wal8.alloc (.cells #[] 9) = wal3 at *
        generalize wal8.heap.size = eb at *
        refine stepA (i := 2) rfl (by kernel_rfl) (fun K0 hK0 => ?_)
        go_simp
        refine (CP.out _ B.below).mono ?_
        rintro e wn2 ⟨hbc, v9, rfl, own9⟩
        obtain ⟨A9, c9, rfl⟩ := own_formV own9
        have ne9 : ∀ g, (Value.slice A9 S.length c9).ownBlock = some g → g ≠ eb := fun g h => by have := (own9.lt g h).1; have := (own0.lt eb rfl).2; omega
        replace own0 := own0.kept (grown_of_below hbc none) (.inr (by simp [Value.ownBlock]))
        replace kb := kb.next' hbc
        replace B := B.next hbc
        try dsimp only
        refine hK0.out _ _ ⟨bkA B.one, B.below⟩ (fun hS => ?_)
        clear hK0 K0
        try simp only [Act.put, List.setIfInBounds_toArray, List.set_cons_zero, List.set_cons_succ]
        clear hbc
        refine stepA (i := 6) rfl (by kernel_rfl) (fun K0 hK0 => ?_)
        rw [if_pos (by rfl)]
        refine step_appendA (.tmp 35) (.tmp 37) 23 rfl eb 9 i0 (.string ⟨#[]⟩) 1 16 Tryz.underlying23 hi0 hz0 hz1 hz2 rfl (by omega) (.slice (some ⟨eb, 0, none⟩) 0 0) 0 [] (by rfl) own0 A' V.length c' (strs V) (by rfl) (by rw [strs_len, Nat.mul_one]) (HTr.out wn2 B.below) (strs_one V) (by unfold maxLen; omega) (by omega) (by have := (own0.lt eb rfl).2; omega) ?_
        intro v8 wn6 own8 hg8 hat8
        rw [Nat.zero_add, List.nil_append] at own8
        obtain ⟨A8, c8, rfl⟩ := own_formV own8
        replace own9 := own9.kept hg8 (by cases h : (Value.slice A9 S.length c9).ownBlock with | none => exact .inl rfl | some g => exact .inr (fun e => by have := ne9 g h; simp [Value.ownBlock] at e; omega))
        have ne8 : ∀ g, (Value.slice A8 V.length c8).ownBlock = some g → g ≠ ob := fun g h => by
          rcases hat8 with h1 | h1
          · rw [h] at h1; simp [Value.ownBlock] at h1; omega
          · rw [h] at h1; injection h1 with h1; have := kb.lt; omega
        replace kb := kb.grown hg8 (fun e => by simp [Value.ownBlock] at e; omega)
        replace B := B.grown hg8 (fun r e => by simp [Value.ownBlock] at e; subst e; exact ⟨web, fun p hp => Nat.ne_of_lt (leb p hp)⟩)
        try dsimp only
        refine hK0.out _ _ ⟨bkA B.one, B.below⟩ (fun hS => ?_)
        clear hK0 K0
        try simp only [Act.put, List.setIfInBounds_toArray, List.set_cons_zero, List.set_cons_succ]
        clear hg8 hat8 own0 ne9
        refine takeA (i := 7) (v := ?_) rfl (by kernel_rfl) (by kernel_rfl) (by kernel_rfl) (fun _ _ _ h => h) (by rfl) (by assumption) ?_ ?_
        rotate_left
        · intro w hSw; (try dsimp only at hSw); go_simp <;> with_reducible rfl
        try simp only [Act.put, List.setIfInBounds_toArray, List.set_cons_zero, List.set_cons_succ]
        have M := PsAt.made B kb (IsI.of_own own9) own8 web leb lob ne8 wob
        obtain ⟨k0, k1⟩ := bkA kb
        have fz0 := kb.frozen 0
        have fz1 := kb.frozen 1
        refine stepA (i := 9) rfl (by kernel_rfl) (fun K0 hK0 => ?_)
        go_simp
        refine hK0.out _ _ ⟨bkA (M.keep (w.heap.size, 25, #[.slice A S.length c, .slice A' V.length c']) (by simp)), M.below⟩ (fun hS9 => ?_)
        clear hK0 K0
        try simp only [Act.put, List.setIfInBounds_toArray, List.set_cons_zero, List.set_cons_succ]
        refine wpAnyH_done (by kernel_rfl) ?_ _
        go_wp2_with fail
        go_meet
        case rel => exact ⟨_, _, _, _, _, _, rfl, M, wob⟩
  case rest =>
    obtain ⟨ob, base, A9, c9, A8, c8, rfl, M0, hob⟩ := hcut
    clear a0 a1 B5' CP HTr
    go_wp2_with fail
    go_loopw [9] (fun i wr => ∃ k : Nat, k ≤ N ∧ i = .int .i64 k ∧ PsAt w wc.heap.size base ([(w.heap.size, 25, #[.slice A S.length c, .slice A' V.length c']), (w.heap.size + 1, 25, #[.slice Ab C.length cb, .slice Ab' U.length cb']), (w.heap.size + 2, 25, #[.slice none 0 0, .slice none 0 0])] ++ [(ob, 25, #[.slice A9 S.length c9, .slice A8 V.length c8])]) (.slice A9 S.length c9) (.slice A8 V.length c8) S (paste (S.map Int.toNat) C V U ⟨#[]⟩ k) wr) (fun i _ => N - (intOf i).toNat)
    case atStart => exact ⟨0, Nat.zero_le _, rfl, M0⟩
    case round =>
      clear M0
      obtain ⟨k, hk, rfl, M⟩ := hrel
      obtain ⟨b0, b1⟩ := bkA (M.keep (w.heap.size + 1, 25, #[.slice Ab C.length cb, .slice Ab' U.length cb']) (by simp))
      have u1 : U.length ≤ N := by rw [HUL.out]; exact Nat.le_refl _
      have u2 : N ≤ U.length := by rw [HUL.out]; exact Nat.le_refl _
      by_cases hlt : k < N
      · obtain ⟨adu, rfl, hub, huc⟩ := HU.out k hlt
        have HUW := Lib.hid huc
        clear huc
        have hmV2 := HPL.out k hlt
        have PLK := Lib.hid (PL.out k hlt)
        have HPS := Lib.hid (show paste (S.map Int.toNat) C V U ⟨#[]⟩ (k + 1) = (paste (S.map Int.toNat) C V U ⟨#[]⟩ k).set (place (S.map Int.toNat) (thr C (idx (cnt C) k))) (U.getD k ⟨#[]⟩) from rfl)
        have HPL2 : Hid ((paste (S.map Int.toNat) C V U ⟨#[]⟩ k).length = V.length) := paste_len _ _ _ _ _ _
        have hmV : place (S.map Int.toNat) (thr C (idx (cnt C) k)) < (paste (S.map Int.toNat) C V U ⟨#[]⟩ k).length := by rw [HPL2.out]; exact hmV2
        obtain ⟨g, gc, ge, -⟩ := M.set hmV
        rw [HPL2.out] at ge
        simp only [Value.slice.injEq] at ge
        obtain ⟨rfl, -, rfl⟩ := ge
        generalize place (S.map Int.toNat) (thr C (idx (cnt C) k)) = m at *
        generalize U.getD k ⟨#[]⟩ = x at *
        have i1' : (0 : Int) ≤ (m : Int) := by omega
        have i2' : (m : Int) < (V.length : Int) := by omega
        have i3' : (0 : Int) ≤ (k : Int) := by omega
        have i4' : (k : Int) < (U.length : Int) := by omega
        have HMV := Lib.hid hmV
        clear hmV hmV2
        obtain ⟨a0, a1⟩ := bkA (M.keep (w.heap.size, 25, #[.slice A S.length c, .slice A' V.length c']) (by simp))
        obtain ⟨o0, o1⟩ := bkA (M.keep (ob, 25, #[.slice A9 S.length c9, .slice (some ⟨g, 0, none⟩) V.length c8]) (by simp))
        have FC := Lib.hid (fun (Y : World) (l9 : List ByteArray) (h : PsAt w wc.heap.size base ([(w.heap.size, 25, #[.slice A S.length c, .slice A' V.length c']), (w.heap.size + 1, 25, #[.slice Ab C.length cb, .slice (some adu) U.length cb']), (w.heap.size + 2, 25, #[.slice none 0 0, .slice none 0 0])] ++ [(ob, 25, #[.slice A9 S.length c9, .slice (some ⟨g, 0, none⟩) V.length c8])]) (.slice A9 S.length c9) (.slice (some ⟨g, 0, none⟩) V.length c8) S l9 Y) => show (((Y.cell? ⟨ob, 0, none⟩ = some (.slice A9 S.length c9) ∧ Y.cell? ⟨ob, 1, none⟩ = some (.slice (some ⟨g, 0, none⟩) V.length c8)) ∧ (Y.cell? ⟨w.heap.size + 1, 0, none⟩ = some (.slice Ab C.length cb) ∧ Y.cell? ⟨w.heap.size + 1, 1, none⟩ = some (.slice (some adu) U.length cb'))) ∧ (Y.cell? ⟨w.heap.size, 0, none⟩ = some (.slice A S.length c) ∧ Y.cell? ⟨w.heap.size, 1, none⟩ = some (.slice A' V.length c'))) ∧ Y.cell? (adu.add k) = some (.string x) from
          ⟨⟨⟨bkA (h.keep (ob, 25, #[.slice A9 S.length c9, .slice (some ⟨g, 0, none⟩) V.length c8]) (by simp)), bkA (h.keep (w.heap.size + 1, 25, #[.slice Ab C.length cb, .slice (some adu) U.length cb']) (by simp))⟩, bkA (h.keep (w.heap.size, 25, #[.slice A S.length c, .slice A' V.length c']) (by simp))⟩, (h.below.cell (p := adu.add k) (by rw [addr_block]; exact hub)).trans HUW.out⟩)
        go_wp2_with fail
        clear a0 a1 b0 b1 o0 o1
        refine wp_region_M 17 (by kernel_rfl) (fun Y => (((Y.cell? ⟨ob, 0, none⟩ = some (.slice A9 S.length c9) ∧ Y.cell? ⟨ob, 1, none⟩ = some (.slice (some ⟨g, 0, none⟩) V.length c8)) ∧ (Y.cell? ⟨w.heap.size + 1, 0, none⟩ = some (.slice Ab C.length cb) ∧ Y.cell? ⟨w.heap.size + 1, 1, none⟩ = some (.slice (some adu) U.length cb'))) ∧ (Y.cell? ⟨w.heap.size, 0, none⟩ = some (.slice A S.length c) ∧ Y.cell? ⟨w.heap.size, 1, none⟩ = some (.slice A' V.length c'))) ∧ Y.cell? (adu.add k) = some (.string x)) (FC.out _ _ M.drew) (fun hS0 => ?_)
        have M1 := M.drew
        clear M
        refine takeM (i := 0) (v := ?_) rfl (by kernel_rfl) (by decide) (by kernel_rfl) (by kernel_rfl) (by kernel_rfl) (fun _ _ _ h => h) (by rfl) (by assumption) ?_ ?_
        rotate_left
        · intro w hSw; (try dsimp only at hSw); go_simp <;> with_reducible rfl
        try simp only [Act.put, List.setIfInBounds_toArray, List.set_cons_zero, List.set_cons_succ]
        refine takeM (i := 1) (v := ?_) rfl (by kernel_rfl) (by decide) (by kernel_rfl) (by kernel_rfl) (by kernel_rfl) (fun _ _ _ h => h) (by rfl) (by assumption) ?_ ?_
        rotate_left
        · intro w hSw; (try dsimp only at hSw); go_simp <;> with_reducible rfl
        try simp only [Act.put, List.setIfInBounds_toArray, List.set_cons_zero, List.set_cons_succ]
        refine takeM (i := 2) (v := ?_) rfl (by kernel_rfl) (by decide) (by kernel_rfl) (by kernel_rfl) (by kernel_rfl) (fun _ _ _ h => h) (by rfl) (by assumption) ?_ ?_
        rotate_left
        · intro w hSw; (try dsimp only at hSw); go_simp <;> with_reducible rfl
        try simp only [Act.put, List.setIfInBounds_toArray, List.set_cons_zero, List.set_cons_succ]
        refine takeM (i := 3) (v := ?_) rfl (by kernel_rfl) (by decide) (by kernel_rfl) (by kernel_rfl) (by kernel_rfl) (fun _ _ _ h => h) (by rfl) (by assumption) ?_ ?_
        rotate_left
        · intro w hSw; (try dsimp only at hSw); go_simp <;> with_reducible rfl
        try simp only [Act.put, List.setIfInBounds_toArray, List.set_cons_zero, List.set_cons_succ]
        refine takeM (i := 4) (v := ?_) rfl (by kernel_rfl) (by decide) (by kernel_rfl) (by kernel_rfl) (by kernel_rfl) (fun _ _ _ h => h) (by rfl) (by assumption) ?_ ?_
        rotate_left
        · intro w hSw; (try dsimp only at hSw); go_simp <;> with_reducible rfl
        try simp only [Act.put, List.setIfInBounds_toArray, List.set_cons_zero, List.set_cons_succ]
        refine takeM (i := 5) (v := ?_) rfl (by kernel_rfl) (by decide) (by kernel_rfl) (by kernel_rfl) (by kernel_rfl) (fun _ _ _ h => h) (by rfl) (by assumption) ?_ ?_
        rotate_left
        · intro w hSw; (try dsimp only at hSw); go_simp <;> with_reducible rfl
        try simp only [Act.put, List.setIfInBounds_toArray, List.set_cons_zero, List.set_cons_succ]
        refine takeM (i := 6) (v := ?_) rfl (by kernel_rfl) (by decide) (by kernel_rfl) (by kernel_rfl) (by kernel_rfl) (fun _ _ _ h => h) (by rfl) (by assumption) ?_ ?_
        rotate_left
        · intro w hSw; (try dsimp only at hSw); go_simp <;> with_reducible rfl
        try simp only [Act.put, List.setIfInBounds_toArray, List.set_cons_zero, List.set_cons_succ]
        refine takeM (i := 7) (v := ?_) rfl (by kernel_rfl) (by decide) (by kernel_rfl) (by kernel_rfl) (by kernel_rfl) (fun _ _ _ h => h) (by rfl) (by assumption) ?_ ?_
        rotate_left
        · intro w hSw; (try dsimp only at hSw); go_simp <;> with_reducible rfl
        try simp only [Act.put, List.setIfInBounds_toArray, List.set_cons_zero, List.set_cons_succ]
        refine takeM (i := 11) (v := ?_) rfl (by kernel_rfl) (by decide) (by kernel_rfl) (by kernel_rfl) (by kernel_rfl) (fun _ _ _ h => h) (by rfl) (by assumption) ?_ ?_
        rotate_left
        · intro w hSw; (try dsimp only at hSw); go_simp <;> with_reducible rfl
        try simp only [Act.put, List.setIfInBounds_toArray, List.set_cons_zero, List.set_cons_succ]
        refine takeM (i := 12) (v := ?_) rfl (by kernel_rfl) (by decide) (by kernel_rfl) (by kernel_rfl) (by kernel_rfl) (fun _ _ _ h => h) (by rfl) (by assumption) ?_ ?_
        rotate_left
        · intro w hSw; (try dsimp only at hSw); go_simp <;> with_reducible rfl
        try simp only [Act.put, List.setIfInBounds_toArray, List.set_cons_zero, List.set_cons_succ]
        refine takeM (i := 13) (v := ?_) rfl (by kernel_rfl) (by decide) (by kernel_rfl) (by kernel_rfl) (by kernel_rfl) (fun _ _ _ h => h) (by rfl) (by assumption) ?_ ?_
        rotate_left
        · intro w hSw; (try dsimp only at hSw); go_simp <;> with_reducible rfl
        try simp only [Act.put, List.setIfInBounds_toArray, List.set_cons_zero, List.set_cons_succ]
        refine takeM (i := 14) (v := ?_) rfl (by kernel_rfl) (by decide) (by kernel_rfl) (by kernel_rfl) (by kernel_rfl) (fun _ _ _ h => h) (by rfl) (by assumption) ?_ ?_
        rotate_left
        · intro w hSw; (try dsimp only at hSw); go_simp <;> with_reducible rfl
        try simp only [Act.put, List.setIfInBounds_toArray, List.set_cons_zero, List.set_cons_succ]
        refine takeM (i := 15) (v := ?_) rfl (by kernel_rfl) (by decide) (by kernel_rfl) (by kernel_rfl) (by kernel_rfl) (fun _ _ _ h => h) (by rfl) (by assumption) ?_ ?_
        rotate_left
        · intro w hSw; (try dsimp only at hSw); go_simp <;> with_reducible rfl
        try simp only [Act.put, List.setIfInBounds_toArray, List.set_cons_zero, List.set_cons_succ]
        clear hS0
        refine stepM (i := 8) rfl (by kernel_rfl) (fun K0 hK0 => ?_)
        go_simp
        refine (IX.out _ M1.below k hlt).mono ?_
        rintro e w5 ⟨hb5, rfl, hX5⟩
        have M5 := M1.next hb5
        dsimp only
        refine hK0.out _ _ (fun _ => FC.out w5 _ M5) (fun _ => ?_)
        clear hK0 K0 hb5 M1
        try simp only [Act.put, List.setIfInBounds_toArray, List.set_cons_zero, List.set_cons_succ]
        have T5 := Lib.hid (TH.out w5 M5.below wr.drew.heap.size k hlt hX5)
        clear hX5
        refine stepM (i := 9) rfl (by kernel_rfl) (fun K0 hK0 => ?_)
        go_simp
        refine T5.out.mono ?_
        rintro e w6 ⟨hb6, rfl, hX6⟩
        have M6 := M5.next hb6
        dsimp only
        refine hK0.out _ _ (fun _ => FC.out w6 _ M6) (fun _ => ?_)
        clear hK0 K0 hb6 T5
        try simp only [Act.put, List.setIfInBounds_toArray, List.set_cons_zero, List.set_cons_succ]
        have P6 := Lib.hid (PLK.out w5.heap.size w6 M6.below hX6)
        clear hX6 M5
        refine stepM (i := 10) rfl (by kernel_rfl) (fun K0 hK0 => ?_)
        go_simp
        refine P6.out.mono ?_
        rintro e w7 ⟨hb7, rfl⟩
        have M7 := M6.next hb7
        have hS7 := FC.out w7 _ M7
        dsimp only
        refine hK0.out _ _ (fun _ => hS7) (fun _ => ?_)
        clear hK0 K0 hb7 P6 M6
        try simp only [Act.put, List.setIfInBounds_toArray, List.set_cons_zero, List.set_cons_succ]
        refine takeM (i := 16) (v := ?_) rfl (by kernel_rfl) (by decide) (by kernel_rfl) (by kernel_rfl) (by kernel_rfl) (fun _ _ _ h => h) (by rfl) (by assumption) ?_ ?_
        rotate_left
        · intro w hSw; (try dsimp only at hSw); go_simp <;> with_reducible rfl
        try simp only [Act.put, List.setIfInBounds_toArray, List.set_cons_zero, List.set_cons_succ]
        clear hS7
        obtain ⟨g2, gc2, ge2, glo, gw, gne, gcell, gfz, gset⟩ := M7.set HMV.out
        rw [HPL2.out] at ge2
        simp only [Value.slice.injEq, Option.some.injEq, Addr.mk.injEq, and_true, true_and] at ge2
        obtain ⟨rfl, rfl⟩ := ge2
        have GS := gset x
        rw [← HPS.out] at GS
        clear gset FC
        refine stepM (i := 17) rfl (by kernel_rfl) (fun K0 hK0 => ?_)
        go_simp
        refine hK0.out _ _ (fun h => absurd rfl h) (fun _ => ?_)
        clear hK0 K0
        try simp only [Act.put, List.setIfInBounds_toArray, List.set_cons_zero, List.set_cons_succ]
        refine doneM (by kernel_rfl) ?_ _
        clear gcell gfz gne HPS HMV HUW u1 u2 i4' i3'
        go_wp2
        go_roundw
        case rel => exact ⟨k + 1, by omega, by go_num, GS⟩
        case measure => simp [intOf]; omega
      · obtain rfl : k = N := by omega
        have hge : ¬ k < U.length := by omega
        have KO := M.keep (ob, 25, #[.slice A9 S.length c9, .slice A8 V.length c8]) (by simp)
        have KR := M.keep (w.heap.size + 2, 25, #[.slice none 0 0, .slice none 0 0]) (by simp)
        obtain ⟨o0, o1⟩ := bkA KO
        obtain ⟨d0, d1⟩ := bkA KR
        have f0 := KR.frozen 0
        have f1 := KR.frozen 1
        have hA := M.isA
        have hB := M.below
        clear u1 u2
        go_wp2
        refine bodyPost_ret (v := .tuple #[.agg #[.slice A9 S.length c9, .slice A8 V.length c8], .int .i64 0]) (by simp [results, Tryz.results20, go_sem, d0, d1]) rfl ?_
        exact ⟨(hB.setCell (p := ⟨w.heap.size + 2, 0, none⟩) (by simp) _).setCell (p := ⟨w.heap.size + 2, 1, none⟩) (by simp) _, _, rfl, by rw [← HN.out]; exact hA.ret d0 d1 _ _⟩
end Go.Proofs.YtgnffedncjjkfaaGreatDoor

namespace Go.Proofs.YtgnffedncjjkfaaGreatDoor
open Go.RowKit Ix Ar

set_option maxRecDepth 100000 in
set_option maxHeartbeats 12800000 in
theorem rpaste_any (a b : Arr) (C : List Cut) (va vk vb : Value) (w : World) (ha : IsA w w.heap.size va a) (hk : IsK w w.heap.size vk C) (hb : IsA w w.heap.size vb b) (hia : InA a) (hib : InA b) (hC : ∀ x ∈ C, In64 x) (hL : C.length ≤ maxLen) :
    Calls Tryz.prog 20 #[va, vk, vb] w fun e w' => Below w.heap.size w w' ∧ ∃ v, e = .returned (.tuple #[v, .int .i64 (pasteR a C b).2]) ∧ IsA w' w'.heap.size v (pasteR a C b).1 := by
  obtain ⟨A, c, A', c', rfl, -, -⟩ := ha.form
  obtain ⟨Ak, ck, rfl, -⟩ := hk.form
  obtain ⟨Ab, cb, Ab', cb', rfl, -, -⟩ := hb.form
  obtain ⟨S, V⟩ := a
  obtain ⟨T, U⟩ := b
  obtain ⟨hS, hT⟩ := ha.parts
  obtain ⟨hSb, hTb⟩ := hb.parts
  simp only at hS hT hSb hTb
  simp only
  obtain ⟨qa, hqa⟩ : ∃ q : Bool, q = true ↔ VA (S, V) := by classical exact ⟨decide _, decide_eq_true_iff⟩
  obtain ⟨qb, hqb⟩ : ∃ q : Bool, q = true ↔ VA (T, U) := by classical exact ⟨decide _, decide_eq_true_iff⟩
  obtain ⟨qf, hqf⟩ : ∃ q : Bool, q = true ↔ Fit S C := by classical exact ⟨decide _, decide_eq_true_iff⟩
  have VVa := Lib.hid (fun W (hW : Below w.heap.size w W) => rarr_any (S, V) (.agg #[.slice A S.length c, .slice A' V.length c']) W (ha.next hW) hia qa hqa)
  have VVb := Lib.hid (fun W (hW : Below w.heap.size w W) => rarr_any (T, U) (.agg #[.slice Ab T.length cb, .slice Ab' U.length cb']) W (hb.next hW) hib qb hqb)
  have B0 := BxW.start3 w 25 25 25 #[.slice A S.length c, .slice A' V.length c'] #[.slice Ab T.length cb, .slice Ab' U.length cb'] #[.slice none 0 0, .slice none 0 0]
  cases hva : qa
  · have hno : ¬ (VA (S, V) ∧ VA (T, U)) := fun h => by rw [hqa.2 h.1] at hva; cases hva
    rw [pasteR_shape hno]
    subst hva
    clear hqa hqb hqf hno ha hb hk hS hT hSb hTb hia hib
    go_enter Tryz.func20, Tryz.ntmps20
    go_wp2_with fail
    generalize (((w.alloc (.cells #[.slice A S.length c, .slice A' V.length c'] 25)).alloc (.cells #[.slice Ab T.length cb, .slice Ab' U.length cb'] 25)).alloc (.cells #[.slice none 0 0, .slice none 0 0] 25)) = W0 at *
    refine (VVa.out W0 B0.below).mono ?_
    rintro e w1 ⟨hb1, rfl⟩
    have B1 := B0.next hb1
    obtain ⟨d0, d1⟩ := bkA B1.three
    have f0 := B1.three.frozen 0
    have f1 := B1.three.frozen 1
    go_wp2
    refine bodyPost_ret (v := .tuple #[.agg #[.slice none 0 0, .slice none 0 0], .int .i64 60]) (by simp [results, Tryz.results20, go_sem, d0, d1]) rfl ?_
    exact ⟨(B1.below.setCell (p := ⟨w.heap.size + 2, 0, none⟩) (by simp) _).setCell (p := ⟨w.heap.size + 2, 1, none⟩) (by simp) _, _, rfl, IsA.zero _ _⟩
  have ya := hqa.1 hva
  subst hva
  cases hvb : qb
  · have hno : ¬ (VA (S, V) ∧ VA (T, U)) := fun h => by rw [hqb.2 h.2] at hvb; cases hvb
    rw [pasteR_shape hno]
    subst hvb
    clear hqa hqb hqf hno ha hb hk hS hT hSb hTb hia hib ya
    go_enter Tryz.func20, Tryz.ntmps20
    go_wp2_with fail
    generalize (((w.alloc (.cells #[.slice A S.length c, .slice A' V.length c'] 25)).alloc (.cells #[.slice Ab T.length cb, .slice Ab' U.length cb'] 25)).alloc (.cells #[.slice none 0 0, .slice none 0 0] 25)) = W0 at *
    refine (VVa.out W0 B0.below).mono ?_
    rintro e w1 ⟨hb1, rfl⟩
    have B1 := B0.next hb1
    obtain ⟨b0, b1⟩ := bkA B1.two
    go_wp2_with fail
    refine (VVb.out w1 B1.below).mono ?_
    rintro e w2 ⟨hb2, rfl⟩
    have B2 := B1.next hb2
    clear b0 b1
    obtain ⟨d0, d1⟩ := bkA B2.three
    have f0 := B2.three.frozen 0
    have f1 := B2.three.frozen 1
    go_wp2
    refine bodyPost_ret (v := .tuple #[.agg #[.slice none 0 0, .slice none 0 0], .int .i64 60]) (by simp [results, Tryz.results20, go_sem, d0, d1]) rfl ?_
    exact ⟨(B2.below.setCell (p := ⟨w.heap.size + 2, 0, none⟩) (by simp) _).setCell (p := ⟨w.heap.size + 2, 1, none⟩) (by simp) _, _, rfl, IsA.zero _ _⟩
  have yb := hqb.1 hvb
  subst hvb
  have hVS : VS S := ya.1
  have FF := Lib.hid (fun W (hW : Below w.heap.size w W) => rfits_any C S Ak A ck c W ((hk.below hW).more hW.size).rd ((hS.below hW).more hW.size).rd hVS.2.1 hC hL qf hqf)
  cases hf : qf
  · have hno : ¬ Fit S C := fun h => by rw [hqf.2 h] at hf; cases hf
    rw [pasteR_slab ⟨ya, yb⟩ hno]
    subst hf
    clear hqa hqb hqf hno ha hb hk hS hT hSb hTb hia hib ya yb hVS
    go_enter Tryz.func20, Tryz.ntmps20
    go_wp2_with fail
    generalize (((w.alloc (.cells #[.slice A S.length c, .slice A' V.length c'] 25)).alloc (.cells #[.slice Ab T.length cb, .slice Ab' U.length cb'] 25)).alloc (.cells #[.slice none 0 0, .slice none 0 0] 25)) = W0 at *
    refine (VVa.out W0 B0.below).mono ?_
    rintro e w1 ⟨hb1, rfl⟩
    have B1 := B0.next hb1
    obtain ⟨b0, b1⟩ := bkA B1.two
    go_wp2_with fail
    refine (VVb.out w1 B1.below).mono ?_
    rintro e w2 ⟨hb2, rfl⟩
    have B2 := B1.next hb2
    clear b0 b1
    obtain ⟨a0, a1⟩ := bkA B2.one
    go_wp2_with fail
    refine (FF.out w2 B2.below).mono ?_
    rintro e w3 ⟨hb3, rfl⟩
    have B3 := B2.next hb3
    clear a0 a1
    obtain ⟨d0, d1⟩ := bkA B3.three
    have f0 := B3.three.frozen 0
    have f1 := B3.three.frozen 1
    go_wp2
    refine bodyPost_ret (v := .tuple #[.agg #[.slice none 0 0, .slice none 0 0], .int .i64 61]) (by simp [results, Tryz.results20, go_sem, d0, d1]) rfl ?_
    exact ⟨(B3.below.setCell (p := ⟨w.heap.size + 2, 0, none⟩) (by simp) _).setCell (p := ⟨w.heap.size + 2, 1, none⟩) (by simp) _, _, rfl, IsA.zero _ _⟩
  have hF := hqf.1 hf
  subst hf
  by_cases hte : T = cntI C
  · subst hte
    rw [pasteR_ok ⟨ya, yb⟩ hF rfl]
    exact rpaste_good S V U C A A' Ak Ab Ab' c c' ck cb cb' w ha hk hb hia hib hC ya yb hF
  rw [pasteR_other ⟨ya, yb⟩ hF hte]
  have hlC := fit_len hF
  have hS4 := hVS.1
  have CN := Lib.hid (fun W (hW : Below w.heap.size w W) => rcounts_any C Ak ck W ((hk.below hW).more hW.size).rd (by omega))
  have EQ := Lib.hid (fun W (hW : Below w.heap.size w W) (u : Value) (h9 : IsI W W.heap.size u (cntI C)) => sameshape_any T (cntI C) (.slice Ab T.length cb) u W (hSb.next hW) h9 hib.shape false (by simp [hte]))
  have HCI : Hid ((cntI C).length = C.length) := cntI_len C
  clear hqa hqb hqf hte ha hb hk hS hT hSb hTb hia hib ya yb hVS hF hlC
  go_enter Tryz.func20, Tryz.ntmps20
  go_wp2_with fail
  generalize (((w.alloc (.cells #[.slice A S.length c, .slice A' V.length c'] 25)).alloc (.cells #[.slice Ab T.length cb, .slice Ab' U.length cb'] 25)).alloc (.cells #[.slice none 0 0, .slice none 0 0] 25)) = W0 at *
  refine (VVa.out W0 B0.below).mono ?_
  rintro e w1 ⟨hb1, rfl⟩
  have B1 := B0.next hb1
  obtain ⟨b0, b1⟩ := bkA B1.two
  go_wp2_with fail
  refine (VVb.out w1 B1.below).mono ?_
  rintro e w2 ⟨hb2, rfl⟩
  have B2 := B1.next hb2
  clear b0 b1
  obtain ⟨a0, a1⟩ := bkA B2.one
  go_wp2_with fail
  refine (FF.out w2 B2.below).mono ?_
  rintro e w3 ⟨hb3, rfl⟩
  have B3 := B2.next hb3
  clear a0 a1
  obtain ⟨b0, b1⟩ := bkA B3.two
  go_wp2_with fail
  refine wp_region_held_drew (S := fun Y => (Y.cell? ⟨w.heap.size + 1, 0, none⟩ = some (.slice Ab T.length cb) ∧ Y.cell? ⟨w.heap.size + 1, 1, none⟩ = some (.slice Ab' U.length cb')) ∧ Below w.heap.size w Y) (by kernel_rfl) ⟨⟨b0, b1⟩, B3.below.drew⟩ (fun hS => ?_)
  clear b0 b1
  have B3d := B3.drew
  clear B3
  refine takeA (i := 0) (v := ?_) rfl (by kernel_rfl) (by kernel_rfl) (by kernel_rfl) (fun _ _ _ h => h) (by rfl) (by assumption) ?_ ?_
  rotate_left
  · intro w hSw; (try dsimp only at hSw); go_simp <;> with_reducible rfl
  try simp only [Act.put, List.setIfInBounds_toArray, List.set_cons_zero, List.set_cons_succ]
  refine takeA (i := 1) (v := ?_) rfl (by kernel_rfl) (by kernel_rfl) (by kernel_rfl) (fun _ _ _ h => h) (by rfl) (by assumption) ?_ ?_
  rotate_left
  · intro w hSw; (try dsimp only at hSw); go_simp <;> with_reducible rfl
  try simp only [Act.put, List.setIfInBounds_toArray, List.set_cons_zero, List.set_cons_succ]
  refine takeA (i := 2) (v := ?_) rfl (by kernel_rfl) (by kernel_rfl) (by kernel_rfl) (fun _ _ _ h => h) (by rfl) (by assumption) ?_ ?_
  rotate_left
  · intro w hSw; (try dsimp only at hSw); go_simp <;> with_reducible rfl
  try simp only [Act.put, List.setIfInBounds_toArray, List.set_cons_zero, List.set_cons_succ]
  refine stepA (i := 3) rfl (by kernel_rfl) (fun K0 hK0 => ?_)
  go_simp
  refine (CN.out _ B3d.below).mono ?_
  rintro e w4 ⟨hb4, rfl, hg4⟩
  have B4 := B3d.next hb4
  have hI9 := IsI.of_bk hg4
  rw [HCI.out] at hI9
  dsimp only
  refine hK0.out _ _ ⟨bkA B4.two, B4.below⟩ (fun hS4' => ?_)
  clear hK0 K0 hS hg4 hb4 CN
  try simp only [Act.put, List.setIfInBounds_toArray, List.set_cons_zero, List.set_cons_succ]
  have EQ4 := Lib.hid (EQ.out w4 B4.below _ hI9)
  clear hI9 EQ
  refine stepA (i := 4) rfl (by kernel_rfl) (fun K0 hK0 => ?_)
  go_simp
  refine EQ4.out.mono ?_
  rintro e w5 ⟨hb5, rfl⟩
  have B5 := B4.next hb5
  dsimp only
  refine hK0.out _ _ ⟨bkA B5.two, B5.below⟩ (fun hS5 => ?_)
  clear hK0 K0 hS4' hb5 B4 EQ4 B3d
  try simp only [Act.put, List.setIfInBounds_toArray, List.set_cons_zero, List.set_cons_succ]
  refine takeA (i := 5) (v := ?_) rfl (by kernel_rfl) (by kernel_rfl) (by kernel_rfl) (fun _ _ _ h => h) (by rfl) (by assumption) ?_ ?_
  rotate_left
  · intro w hSw; (try dsimp only at hSw); go_simp <;> with_reducible rfl
  try simp only [Act.put, List.setIfInBounds_toArray, List.set_cons_zero, List.set_cons_succ]
  refine wpAnyH_done (by kernel_rfl) ?_ _
  clear hS5
  obtain ⟨d0, d1⟩ := bkA B5.three
  have f0 := B5.three.frozen 0
  have f1 := B5.three.frozen 1
  go_wp2
  refine bodyPost_ret (v := .tuple #[.agg #[.slice none 0 0, .slice none 0 0], .int .i64 60]) (by simp [results, Tryz.results20, go_sem, d0, d1]) rfl ?_
  exact ⟨(B5.below.setCell (p := ⟨w.heap.size + 2, 0, none⟩) (by simp) _).setCell (p := ⟨w.heap.size + 2, 1, none⟩) (by simp) _, _, rfl, IsA.zero _ _⟩
end Go.Proofs.YtgnffedncjjkfaaGreatDoor
