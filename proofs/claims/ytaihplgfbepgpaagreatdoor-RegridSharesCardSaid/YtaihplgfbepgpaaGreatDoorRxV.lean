/-
  Plain law: the parts that cells of a grid have in common with a cell add up to at most its area, on a cylinder too.
  Walks: the law's added, fits.
  The walk of the law RegridShares (printed by rxgen.py).
-/
import Derived.Test.YtaihplgfbepgpaaGreatDoorRwV
import Derived.Test.YtaihplgfbepgpaaGreatDoorQqH
namespace Go.Proofs.YtaihplgfbepgpaaGreatDoor
open Go.RowKit Ar

/-- A cell as a polygon, moved in X. -/
def pg (l : List Pl) (d : Int) : List Geo.Pt := (poly l d).map toP
theorem pg_len (l : List Pl) (d : Int) : (pg l d).length = l.length := by unfold pg; rw [List.length_map, poly_len]
theorem pg_tc {l : List Pl} (h : validC l) (d : Int) : Geo.TC (pg l d) := poly_tc h d
theorem pg_three {l : List Pl} (h : validC l) (d : Int) : 3 ≤ (pg l d).length := by rw [pg_len]; exact h.1
theorem pg_mem {l : List Pl} {d : Int} {x : Geo.Pt} (h : x ∈ pg l d) : ∃ p ∈ l, x = ⟨((p.1 + d : Int) : Rat), ((p.2 : Int) : Rat)⟩ := by
  unfold pg poly at h
  rw [List.map_map] at h
  obtain ⟨p, hp, rfl⟩ := List.mem_map.1 h
  exact ⟨p, hp, rfl⟩
theorem pg_mv (l : List Pl) (d e : Int) : (pg l e).map (Geo.mv ⟨(d : Rat), 0⟩) = pg l (e + d) := by
  unfold pg
  rw [poly_pts, poly_pts, List.map_map]
  apply List.map_congr_left
  intro x _
  simp only [Function.comp, Geo.mv, Geo.Pt.mk.injEq, Rat.intCast_add]
  constructor <;> grind
theorem ar_moved (la lb : List Pl) (d e : Int) : Geo.ar (pg la d) (Geo.cyc (pg lb e)) = Geo.ar (pg la 0) (Geo.cyc (pg lb (e - d))) := by
  have h := Geo.common_mv ⟨(d : Rat), 0⟩ (pg la 0) (pg lb (e - d))
  rw [pg_mv, pg_mv, show (0 : Int) + d = d by omega, show e - d + d = e by omega, Geo.fanArea_eq, Geo.fanArea_eq] at h
  exact h
/-- A line between two polygons. -/
theorem ar_apart {A B : List Geo.Pt} (hA : Geo.TC A) (hA3 : 3 ≤ A.length) (hB : Geo.TC B) (hB3 : 3 ≤ B.length) {e : Geo.Pt × Geo.Pt} (hne : e.1 ≠ e.2) (h1 : ∀ x ∈ A, Geo.cross e.1 e.2 x ≤ 0) (h2 : ∀ x ∈ B, 0 ≤ Geo.cross e.1 e.2 x) : Geo.ar A (Geo.cyc B) = 0 := by
  have pB := Geo.proper_cyc hB hB3
  have pe : Geo.Proper [e] := fun x hx => by simp at hx; subst hx; exact hne
  have e1 : Geo.ar A (Geo.cyc B) = Geo.ar A (Geo.cyc B ++ [e]) := by
    refine Geo.ar_region hA hA3 hA hA3 pB (pB.append pe) fun x => ?_
    unfold Geo.Reg
    constructor
    · rintro ⟨a, b⟩
      refine ⟨a, fun g hg => ?_⟩
      rcases List.mem_append.1 hg with hg | hg
      · exact b g hg
      · simp at hg
        subst hg
        obtain ⟨v, hv, hvx, _⟩ := hB.min (Geo.aff_cross g.1 g.2) hB3 (x := x) (fun c d hcd => b (c, d) hcd)
        have := h2 v hv
        grind
    · rintro ⟨a, b⟩
      exact ⟨a, fun g hg => b g (List.mem_append.2 (.inl hg))⟩
  rw [e1]
  unfold Geo.ar
  rw [← Geo.fanArea_eq]
  refine Geo.area_flat hne fun x hx => ?_
  have k1 := Geo.clipAll_left (Geo.cyc B ++ [e]) A x hx e (by simp)
  have k2 := Geo.clipAll_ge (Geo.aff_cross e.1 e.2).neg (Geo.cyc B ++ [e]) A (fun y hy => by have := h1 y hy; show 0 ≤ -Geo.cross e.1 e.2 y; grind) x hx
  have k3 : 0 ≤ -Geo.cross e.1 e.2 x := k2
  grind
theorem lineR_val (x : Rat) (p : Geo.Pt) : Geo.cross (Geo.lineR x).1 (Geo.lineR x).2 p = p.x - x := by unfold Geo.lineR Geo.cross; grind
theorem lineL_val (x : Rat) (p : Geo.Pt) : Geo.cross (Geo.lineL x).1 (Geo.lineL x).2 p = x - p.x := by unfold Geo.lineL Geo.cross; grind
theorem lineU_val (x : Rat) (p : Geo.Pt) : Geo.cross (Geo.lineU x).1 (Geo.lineU x).2 p = p.y - x := by unfold Geo.lineU Geo.cross; grind
theorem lineD_val (x : Rat) (p : Geo.Pt) : Geo.cross (Geo.lineD x).1 (Geo.lineD x).2 p = x - p.y := by unfold Geo.lineD Geo.cross; grind
theorem rat_sub_nn {a b : Int} (h : a ≤ b) : (0 : Rat) ≤ (b : Rat) - (a : Rat) := by
  have := Rat.intCast_le_intCast.2 h
  grind
theorem rat_sub_np {a b : Int} (h : a ≤ b) : (a : Rat) - (b : Rat) ≤ 0 := by
  have := Rat.intCast_le_intCast.2 h
  grind
/-- What two cells have in common is an area, whether their boxes lie apart or not. -/
theorem commonQ_pg {la lb : List Pl} (ka : validC la) (kb : validC lb) (dx : Int) : commonQ la lb dx = Geo.ar (pg la 0) (Geo.cyc (pg lb dx)) / 2 := by
  rw [commonQ_geo]
  split
  · rename_i h
    have BA := bbox_of (l := la) (by have := ka.1; omega)
    have BB := bbox_of (l := lb) (by have := kb.1; omega)
    have z : Geo.ar (pg la 0) (Geo.cyc (pg lb dx)) = 0 := by
      unfold apartB shiftB at h
      simp only at h
      rcases h with h | h | h | h
      · refine ar_apart (pg_tc ka 0) (pg_three ka 0) (pg_tc kb dx) (pg_three kb dx) (Geo.lineR_ne (((bbox lb).1 + dx : Int) : Rat)) (fun x hx => ?_) (fun x hx => ?_)
        · obtain ⟨p, hp, rfl⟩ := pg_mem hx
          rw [lineR_val]
          have := BA.a2 p hp
          exact rat_sub_np (by omega)
        · obtain ⟨p, hp, rfl⟩ := pg_mem hx
          rw [lineR_val]
          have := BB.a1 p hp
          exact rat_sub_nn (by omega)
      · refine ar_apart (pg_tc ka 0) (pg_three ka 0) (pg_tc kb dx) (pg_three kb dx) (Geo.lineL_ne (((bbox lb).2.1 + dx : Int) : Rat)) (fun x hx => ?_) (fun x hx => ?_)
        · obtain ⟨p, hp, rfl⟩ := pg_mem hx
          rw [lineL_val]
          have := BA.a1 p hp
          exact rat_sub_np (by omega)
        · obtain ⟨p, hp, rfl⟩ := pg_mem hx
          rw [lineL_val]
          have := BB.a2 p hp
          exact rat_sub_nn (by omega)
      · refine ar_apart (pg_tc ka 0) (pg_three ka 0) (pg_tc kb dx) (pg_three kb dx) (Geo.lineU_ne (((bbox lb).2.2.1 : Int) : Rat)) (fun x hx => ?_) (fun x hx => ?_)
        · obtain ⟨p, hp, rfl⟩ := pg_mem hx
          rw [lineU_val]
          have := BA.a4 p hp
          exact rat_sub_np (by omega)
        · obtain ⟨p, hp, rfl⟩ := pg_mem hx
          rw [lineU_val]
          have := BB.a3 p hp
          exact rat_sub_nn (by omega)
      · refine ar_apart (pg_tc ka 0) (pg_three ka 0) (pg_tc kb dx) (pg_three kb dx) (Geo.lineD_ne (((bbox lb).2.2.2 : Int) : Rat)) (fun x hx => ?_) (fun x hx => ?_)
        · obtain ⟨p, hp, rfl⟩ := pg_mem hx
          rw [lineD_val]
          have := BA.a3 p hp
          exact rat_sub_np (by omega)
        · obtain ⟨p, hp, rfl⟩ := pg_mem hx
          rw [lineD_val]
          have := BB.a4 p hp
          exact rat_sub_nn (by omega)
    rw [z]
    grind
  · rw [Geo.fanArea_eq]; rfl
theorem commonQ_flip {la lb : List Pl} (ka : validC la) (kb : validC lb) (d : Int) : commonQ la lb d = commonQ lb la (-d) := by
  rw [commonQ_pg ka kb, commonQ_pg kb ka, Geo.ar_comm (pg_tc ka 0) (pg_three ka 0) (pg_tc kb d) (pg_three kb d), ar_moved, show 0 - d = -d by omega]
/-- A cell that is moved by at least its width has nothing in common with itself. -/
theorem commonQ_far {l : List Pl} {d : Int} (h : wid l ≤ d ∨ wid l ≤ -d) : commonQ l l d = 0 := by
  unfold commonQ
  rw [if_pos]
  unfold apartB shiftB
  unfold wid at h
  simp only
  omega
theorem rat_le_of_eq {a b : Rat} (h : a = b) : a ≤ b := by rw [h]; exact Rat.le_refl
theorem sm_flatMap {α β : Type} (l : List α) (f : α → List β) (g : β → Rat) : Geo.sm (l.flatMap f) g = Geo.sm l fun x => Geo.sm (f x) g := by
  induction l with
  | nil => rfl
  | cons a l ih => rw [List.flatMap_cons, Geo.sm_append, ih]; rfl
theorem sm_half {α : Type} (l : List α) (f : α → Rat) : Geo.sm l (fun x => f x / 2) = Geo.sm l f / 2 := by
  have := Geo.sm_mul l (1 / 2) f
  have e : (fun x => (1 / 2 : Rat) * f x) = fun x => f x / 2 := funext fun x => by grind
  rw [e] at this
  rw [this]; grind
/-- THE PARTS that cells, each moved by some numbers, have in common with a cell add up to at most its area, if no two of them have an area in common. -/
theorem parts_le {la : List Pl} (ka : validC la) (Ts : List (List Pl)) (Ds : List Int) (kT : ∀ t ∈ Ts, validC t) (hpair : Ts.Pairwise (fun s t => ∀ d ∈ Ds, ∀ e ∈ Ds, commonQ s t (e - d) = 0)) (hself : ∀ t ∈ Ts, Ds.Pairwise (fun d e => commonQ t t (e - d) = 0)) :
    Geo.sm Ts (fun t => Geo.sm Ds (fun d => commonQ la t d)) ≤ areaQ (poly la 0) := by
  have zero : ∀ {s t : List Pl} {d e : Int}, validC s → validC t → commonQ s t (e - d) = 0 → Geo.ar (pg s d) (Geo.cyc (pg t e)) = 0 := fun {s t d e} ks kt h => by
    rw [ar_moved]
    rw [commonQ_pg ks kt] at h
    grind
  have key := Geo.shares (pg_tc ka 0) (pg_three ka 0) (Ts.flatMap fun t => Ds.map fun d => pg t d) (fun Q hQ => by
      obtain ⟨t, ht, hQ⟩ := List.mem_flatMap.1 hQ
      obtain ⟨d, _, rfl⟩ := List.mem_map.1 hQ
      exact ⟨pg_tc (kT t ht) d, pg_three (kT t ht) d⟩) (by
      rw [List.pairwise_flatMap]
      constructor
      · intro t ht
        rw [List.pairwise_map]
        exact (hself t ht).imp fun h => zero (kT t ht) (kT t ht) h
      · have hp2 := List.Pairwise.and_mem.1 hpair
        refine hp2.imp fun {s t} h => ?_
        intro x hx y hy
        obtain ⟨d, hd, rfl⟩ := List.mem_map.1 hx
        obtain ⟨e, he, rfl⟩ := List.mem_map.1 hy
        exact zero (kT s h.1) (kT t h.2.1) (h.2.2 d hd e he)) [] (fun e he => by cases he)
  rw [sm_flatMap] at key
  have e0 : Geo.ar (pg la 0) [] = Geo.Sh (pgon la) := rfl
  rw [areaQ_sh, ← e0]
  have e1 : Geo.sm Ts (fun t => Geo.sm Ds (fun d => commonQ la t d)) = Geo.sm Ts (fun t => Geo.sm (Ds.map fun d => pg t d) fun Q => Geo.ar (pg la 0) ([] ++ Geo.cyc Q)) / 2 := by
    rw [← sm_half]
    apply Geo.sm_congr
    intro t ht
    rw [Geo.sm_map, ← sm_half]
    apply Geo.sm_congr
    intro d _
    rw [commonQ_pg ka (kT t ht)]
    rfl
  rw [e1]
  grind
theorem sumI_sm (lo : Int) (c : Int → Rat) : ∀ n, Geo.sumI lo c n = Geo.sm (List.range n) fun k => c (lo + k)
  | 0 => rfl
  | n + 1 => by
    show Geo.sumI lo c n + c (lo + n) = _
    rw [List.range_succ, Geo.sm_append, sumI_sm lo c n]
    show _ = _ + (c (lo + n) + 0)
    grind
theorem sumI_ge {c : Int → Rat} (h0 : ∀ k, 0 ≤ c k) {lo k : Int} : ∀ {n : Nat}, lo ≤ k → k < lo + n → c k ≤ Geo.sumI lo c n
  | 0, h1, h2 => by omega
  | n + 1, h1, h2 => by
    show _ ≤ Geo.sumI lo c n + c (lo + n)
    have h3 := Geo.sumI_nonneg h0 n (lo := lo)
    have h4 := h0 (lo + n)
    by_cases h : k = lo + n
    · subst h; grind
    · have := sumI_ge h0 (k := k) (n := n) h1 (by omega)
      grind
/-- Cells that have nothing in common around a cylinder have nothing in common, wherever one is moved by periods. -/
theorem rnd_none {la lb : List Pl} (ka : validC la) (kb : validC lb) {p : Int} (hp : 0 < p) (h : ¬ 0 < rndQ la lb p) (k : Int) : commonQ la lb (k * p) = 0 := by
  have h0 := commonQ_nonneg ka kb (k * p)
  by_cases hc : commonQ la lb (k * p) = 0
  · exact hc
  · obtain ⟨h1, h2⟩ := common_range hc
    have hr := Geo.range_prog hp h1 h2
    have hg := sumI_ge (c := fun k => commonQ la lb (k * p)) (fun k => commonQ_nonneg ka kb _) (lo := loP la lb p) (k := k) (n := (hiP la lb p + 1 - loP la lb p).toNat) (by unfold loP; exact hr.1) (by have := hr.1; have := hr.2; unfold hiP loP; omega)
    have e : rndQ la lb p = Geo.sumI (loP la lb p) (fun k => commonQ la lb (k * p)) (hiP la lb p + 1 - loP la lb p).toNat := by unfold rndQ; rw [if_neg (by omega)]
    rw [← e] at hg
    have hg : commonQ la lb (k * p) ≤ rndQ la lb p := hg
    grind
/-- The numbers by which cells are moved around a cylinder, as many as count. -/
def turns (p : Int) (N : Nat) : List Int := if p = 0 then [0] else (List.range N).map fun (k : Nat) => (-5000000 + (k : Int)) * p
theorem rnd_turns {la lb : List Pl} (ka : validC la) (kb : validC lb) {p : Int} (hp : 0 ≤ p) (hp2 : p ≤ 1048576) {N : Nat} (hN : N = 10000001) : rndQ la lb p = Geo.sm (turns p N) fun d => commonQ la lb d := by
  unfold rndQ turns
  split
  · show _ = commonQ la lb 0 + 0
    grind
  · have hp' : 0 < p := by omega
    obtain ⟨h1, h2, _⟩ := lo_in ka kb hp' hp2
    rw [Geo.sm_map]
    have e := sumI_sm (-5000000) (fun k => commonQ la lb (k * p)) N
    rw [← e]
    symm
    refine Geo.sumI_widen (by omega) (by omega) (fun k hk => ?_)
    obtain ⟨h3, h4⟩ := common_range hk
    have := Geo.range_prog hp' h3 h4
    unfold loP hiP
    omega
theorem turns_diff {p : Int} {N : Nat} {d e : Int} (hd : d ∈ turns p N) (he : e ∈ turns p N) : ∃ k, e - d = k * p := by
  unfold turns at hd he
  split at hd
  · rename_i h
    rw [if_pos h] at he
    simp at hd he
    exact ⟨0, by omega⟩
  · rename_i h
    rw [if_neg h] at he
    obtain ⟨a, _, rfl⟩ := List.mem_map.1 hd
    obtain ⟨b, _, rfl⟩ := List.mem_map.1 he
    exact ⟨(b : Int) - a, by rw [← Int.sub_mul]; congr 1; omega⟩
theorem turns_self {l : List Pl} {p : Int} (hp : 0 ≤ p) (hw : p = 0 ∨ wid l ≤ p) (N : Nat) : (turns p N).Pairwise (fun d e => commonQ l l (e - d) = 0) := by
  unfold turns
  split
  · simp
  · rename_i h
    rw [List.pairwise_map]
    refine List.Pairwise.imp ?_ (List.pairwise_lt_range (n := N))
    intro a b hab
    refine commonQ_far (.inl ?_)
    have e : (-5000000 + (b : Int)) * p - (-5000000 + (a : Int)) * p = ((b : Int) - a) * p := by rw [← Int.sub_mul]; congr 1; omega
    rw [e]
    have := Int.mul_le_mul_of_nonneg_right (show (1 : Int) ≤ (b : Int) - a by omega) hp
    omega
/-- Two cells of a grid with a period that don't clash. -/
theorem clash_none {la lb : List Pl} (ka : validC la) (kb : validC lb) {p : Int} (hp : 0 ≤ p) (h : ¬ clash p la lb) (k : Int) : commonQ la lb (k * p) = 0 := by
  unfold clash at h
  by_cases h0 : p = 0
  · subst h0
    have := commonQ_nonneg ka kb 0
    rw [Int.mul_zero]
    grind
  · exact rnd_none ka kb (by omega) (fun h1 => h (.inr ⟨by omega, h1⟩)) k
theorem neg_turns {p : Int} {N : Nat} {d e : Int} (hd : d ∈ (turns p N).map (fun x => -x)) (he : e ∈ (turns p N).map (fun x => -x)) : ∃ k, e - d = k * p := by
  obtain ⟨a, ha, rfl⟩ := List.mem_map.1 hd
  obtain ⟨b, hb, rfl⟩ := List.mem_map.1 he
  obtain ⟨k, hk⟩ := turns_diff hb ha
  exact ⟨k, by omega⟩
theorem lst_mem {L : List Ce} {i : Nat} (h : i < L.length) : L[i]? = some (lst L i, (L.getD i ([], false)).2) := by
  unfold lst
  rw [List.getD_eq_getElem?_getD, List.getElem?_eq_getElem h]
  rfl
theorem lst_valid {L : List Ce} (hv : ∀ x ∈ L, validC x.1) {i : Nat} (h : i < L.length) : validC (lst L i) := hv _ (List.mem_of_getElem? (lst_mem h))
theorem flat_pairs {L : List Ce} {p : Int} (hv : ∀ x ∈ L, validC x.1) (hp : 0 ≤ p) (hf : flatP p L) : ((List.range L.length).map (lst L)).Pairwise (fun s t => ∀ k : Int, commonQ s t (k * p) = 0) := by
  rw [List.pairwise_map]
  have h := List.Pairwise.and_mem.1 (List.pairwise_lt_range (n := L.length))
  refine h.imp fun {a b} hab k => ?_
  have ha : a < L.length := List.mem_range.1 hab.1
  have hb : b < L.length := List.mem_range.1 hab.2.1
  rw [commonQ_flip (lst_valid hv ha) (lst_valid hv hb), ← Int.neg_mul]
  exact clash_none (lst_valid hv hb) (lst_valid hv ha) hp (hf b a _ _ hb (lst_mem hb) (lst_mem ha) hab.2.2) _
theorem src_le {F T : List Ce} {p : Int} (hF : ∀ x ∈ F, validC x.1) (hT : ∀ x ∈ T, validC x.1) (hp : 0 ≤ p) (hp2 : p ≤ 1048576) (hw : ∀ x ∈ T, p = 0 ∨ wid x.1 ≤ p) (hf : flatP p T) {i : Nat} (hi : i < F.length) :
    Geo.sm (List.range T.length) (fun j => rndQ (lst F i) (lst T j) p) ≤ areaQ (poly (lst F i) 0) := by
  obtain ⟨N, hN⟩ : ∃ N, N = 10000001 := ⟨_, rfl⟩
  have ka := lst_valid hF hi
  have key := parts_le ka ((List.range T.length).map (lst T)) (turns p N) (fun t ht => by
      obtain ⟨j, hj, rfl⟩ := List.mem_map.1 ht
      exact lst_valid hT (List.mem_range.1 hj)) ((flat_pairs hT hp hf).imp fun {s t} h d hd e he => by
      obtain ⟨k, hk⟩ := turns_diff hd he
      rw [hk]; exact h k) (fun t ht => by
      obtain ⟨j, hj, rfl⟩ := List.mem_map.1 ht
      exact turns_self hp (hw _ (List.mem_of_getElem? (lst_mem (List.mem_range.1 hj)))) N)
  rw [Geo.sm_map] at key
  refine Rat.le_trans (rat_le_of_eq (Geo.sm_congr fun j hj => ?_)) key
  exact rnd_turns ka (lst_valid hT (List.mem_range.1 hj)) hp hp2 hN
theorem tgt_le {F T : List Ce} {p : Int} (hF : ∀ x ∈ F, validC x.1) (hT : ∀ x ∈ T, validC x.1) (hp : 0 ≤ p) (hp2 : p ≤ 1048576) (hw : ∀ x ∈ F, p = 0 ∨ wid x.1 ≤ p) (hf : flatP p F) {j : Nat} (hj : j < T.length) :
    Geo.sm (List.range F.length) (fun i => rndQ (lst F i) (lst T j) p) ≤ areaQ (poly (lst T j) 0) := by
  obtain ⟨N, hN⟩ : ∃ N, N = 10000001 := ⟨_, rfl⟩
  have kb := lst_valid hT hj
  have key := parts_le kb ((List.range F.length).map (lst F)) ((turns p N).map fun x => -x) (fun t ht => by
      obtain ⟨i, hi, rfl⟩ := List.mem_map.1 ht
      exact lst_valid hF (List.mem_range.1 hi)) ((flat_pairs hF hp hf).imp fun {s t} h d hd e he => by
      obtain ⟨k, hk⟩ := neg_turns hd he
      rw [hk]; exact h k) (fun t ht => by
      obtain ⟨i, hi, rfl⟩ := List.mem_map.1 ht
      have kt := lst_valid hF (List.mem_range.1 hi)
      rw [List.pairwise_map]
      refine (turns_self hp (hw _ (List.mem_of_getElem? (lst_mem (List.mem_range.1 hi)))) N).imp fun {d e} h => ?_
      rw [commonQ_flip kt kt, show -(-e - -d) = e - d by omega]
      exact h)
  rw [Geo.sm_map] at key
  refine Rat.le_trans (rat_le_of_eq (Geo.sm_congr fun i hi => ?_)) key
  have ks := lst_valid hF (List.mem_range.1 hi)
  rw [Geo.sm_map, rnd_turns ks kb hp hp2 hN]
  exact Geo.sm_congr fun d _ => commonQ_flip ks kb d

/-! The weights of a cell. -/
def sumL (l : List Rat) : Rat := l.foldl (· + ·) 0
theorem sumL_snoc (l : List Rat) (q : Rat) : sumL (l ++ [q]) = sumL l + q := by unfold sumL; rw [List.foldl_append]; rfl
theorem sumL_take (l : List Rat) {k : Nat} (hk : k < l.length) : sumL (l.take (k + 1)) = sumL (l.take k) + l[k] := by
  rw [List.take_succ_eq_append_getElem hk, sumL_snoc]
theorem sumL_append (l m : List Rat) : sumL (l ++ m) = sumL l + sumL m := by
  suffices h : ∀ (m : List Rat) (a : Rat), m.foldl (· + ·) a = a + sumL m by
    show (l ++ m).foldl (· + ·) 0 = _
    rw [List.foldl_append]
    exact h m _
  intro m
  induction m with
  | nil => intro a; show a = a + 0; grind
  | cons q m ih =>
    intro a
    have h1 := ih (a + q)
    have h2 := ih (0 + q)
    show m.foldl (· + ·) (a + q) = a + m.foldl (· + ·) (0 + q)
    rw [h1, h2]; grind
/-- The areas of the weights from a source cell; to a target cell. -/
def fromA (l : List We) (i : Nat) : List Rat := (l.filter fun x => decide (x.1 = i)).map fun x => x.2.2
def toA (l : List We) (j : Nat) : List Rat := (l.filter fun x => decide (x.2.1 = j)).map fun x => x.2.2
theorem fromA_app (l m : List We) (i : Nat) : fromA (l ++ m) i = fromA l i ++ fromA m i := by unfold fromA; rw [List.filter_append, List.map_append]
theorem toA_app (l m : List We) (j : Nat) : toA (l ++ m) j = toA l j ++ toA m j := by unfold toA; rw [List.filter_append, List.map_append]
theorem fromA_new (q : Rat) (n j i : Nat) (hq : 0 ≤ q) : sumL (fromA (wNew q n j) i) = if n = i then q else 0 := by
  unfold wNew
  split
  · unfold fromA
    by_cases h : n = i
    · simp only [List.filter_cons, h, decide_true, List.filter_nil, List.map_cons, List.map_nil, if_true]
      show 0 + q = q
      grind
    · simp only [List.filter_cons, h, decide_false, List.filter_nil, if_false]
      rfl
  · have : q = 0 := by grind
    rw [this]
    split <;> rfl
theorem toA_new (q : Rat) (n j k : Nat) (hq : 0 ≤ q) : sumL (toA (wNew q n j) k) = if j = k then q else 0 := by
  unfold wNew
  split
  · unfold toA
    by_cases h : j = k
    · simp only [List.filter_cons, h, decide_true, List.filter_nil, List.map_cons, List.map_nil, if_true]
      show 0 + q = q
      grind
    · simp only [List.filter_cons, h, decide_false, List.filter_nil, if_false]
      rfl
  · have : q = 0 := by grind
    rw [this]
    split <;> rfl
section
variable {F T : List Ce} {p : Int} (hF : ∀ x ∈ F, validC x.1) (hT : ∀ x ∈ T, validC x.1)
include hF
theorem from_one {tl : List Pl} (kt : validC tl) (j i : Nat) : ∀ n, n ≤ F.length → sumL (fromA (wOne F tl p j n) i) = if i < n then rndQ (lst F i) tl p else 0
  | 0, _ => by rw [if_neg (by omega)]; rfl
  | n + 1, hn => by
    show sumL (fromA (wOne F tl p j n ++ wNew _ n j) i) = _
    rw [fromA_app, sumL_append, from_one kt j i n (by omega), fromA_new _ _ _ _ (rndQ_nonneg (lst_valid hF (by omega)) kt p)]
    by_cases h : n = i
    · subst h
      rw [if_neg (by omega), if_pos rfl, if_pos (by omega)]; grind
    · rw [if_neg h]
      by_cases h2 : i < n
      · rw [if_pos h2, if_pos (by omega)]; grind
      · rw [if_neg h2, if_neg (by omega)]; grind
theorem to_one {tl : List Pl} (kt : validC tl) (j k : Nat) : ∀ n, n ≤ F.length → sumL (toA (wOne F tl p j n) k) = if j = k then Geo.sm (List.range n) (fun i => rndQ (lst F i) tl p) else 0
  | 0, _ => by split <;> rfl
  | n + 1, hn => by
    show sumL (toA (wOne F tl p j n ++ wNew _ n j) k) = _
    rw [toA_app, sumL_append, to_one kt j k n (by omega), toA_new _ _ _ _ (rndQ_nonneg (lst_valid hF (by omega)) kt p)]
    split
    · rw [List.range_succ, Geo.sm_append]
      show _ = _ + (_ + 0)
      grind
    · grind
include hT
theorem from_all (i : Nat) (hi : i < F.length) : ∀ n, n ≤ T.length → sumL (fromA (wAll F T p n) i) = Geo.sm (List.range n) (fun j => rndQ (lst F i) (lst T j) p)
  | 0, _ => rfl
  | n + 1, hn => by
    show sumL (fromA (wAll F T p n ++ wOne F (lst T n) p n F.length) i) = _
    rw [fromA_app, sumL_append, from_all i hi n (by omega), from_one hF (lst_valid hT (by omega)) n i F.length (Nat.le_refl _), if_pos hi, List.range_succ, Geo.sm_append]
    show _ = _ + (_ + 0)
    grind
theorem to_all (k : Nat) : ∀ n, n ≤ T.length → sumL (toA (wAll F T p n) k) = if k < n then Geo.sm (List.range F.length) (fun i => rndQ (lst F i) (lst T k) p) else 0
  | 0, _ => by rw [if_neg (by omega)]; rfl
  | n + 1, hn => by
    show sumL (toA (wAll F T p n ++ wOne F (lst T n) p n F.length) k) = _
    rw [toA_app, sumL_append, to_all k n (by omega), to_one hF (lst_valid hT (by omega)) n k F.length (Nat.le_refl _)]
    by_cases h : n = k
    · subst h
      rw [if_neg (by omega), if_pos rfl, if_pos (by omega)]; grind
    · rw [if_neg h]
      by_cases h2 : k < n
      · rw [if_pos h2, if_pos (by omega)]; grind
      · rw [if_neg h2, if_neg (by omega)]; grind
end
theorem wAll_mem {F T : List Ce} {p : Int} : ∀ {n : Nat} {x : We}, x ∈ wAll F T p n → 0 < x.2.2 ∧ x.1 < F.length ∧ x.2.1 < n ∧ x.2.2 = rndQ (lst F x.1) (lst T x.2.1) p
  | 0, x, h => by cases h
  | n + 1, x, h => by
    have one : ∀ {m : Nat} {y : We}, y ∈ wOne F (lst T n) p n m → 0 < y.2.2 ∧ y.1 < m ∧ y.2.1 = n ∧ y.2.2 = rndQ (lst F y.1) (lst T n) p := by
      intro m
      induction m with
      | zero => intro y hy; cases hy
      | succ m ih =>
        intro y hy
        rcases List.mem_append.1 hy with hy | hy
        · obtain ⟨a, b, c⟩ := ih hy
          exact ⟨a, by omega, c⟩
        · unfold wNew at hy
          split at hy
          · simp at hy
            subst hy
            exact ⟨by assumption, by show m < m + 1; omega, rfl, rfl⟩
          · cases hy
    rcases List.mem_append.1 h with h | h
    · obtain ⟨a, b, c, d⟩ := wAll_mem h
      exact ⟨a, b, by omega, d⟩
    · obtain ⟨a, b, c, d⟩ := one h
      exact ⟨a, b, by omega, by rw [c]; exact d⟩
end Go.Proofs.YtaihplgfbepgpaaGreatDoor

namespace Go.Proofs.YtaihplgfbepgpaaGreatDoor
open Go.RowKit Ar

/-- A number's text is read again. -/
theorem qlong_text (q : Rat) (w : World) (hq : sz q ≤ 27000000001) :
    Calls Tryz.prog 43 #[.string ⟨(ratText q).toArray⟩] w fun e w' => Below w.heap.size w w' ∧ ∃ v, e = .returned (.tuple #[v, .bool true]) ∧ IsQ w' w'.heap.size v q := by
  have hl := ratText_len q
  refine (qlong_any ⟨(ratText q).toArray⟩ w (by rw [← size_list']; show (ratText q).length ≤ _; omega)).mono ?_
  rintro e w' ⟨hb, v, z, he, hz, p, hp, hpz⟩
  have ht := isText_ratText q
  have hzt : z = true := hz.2 ht.1
  have hpq := hpz hzt
  rw [show textRat (⟨(ratText q).toArray⟩ : ByteArray).data.toList = q from ht.2] at hpq
  subst hzt
  subst hpq
  exact ⟨hb, v, he, hp⟩

theorem cmpQ_le {p q : Rat} (h : p ≤ q) : cmpQ p q ≤ 0 := by
  unfold cmpQ
  rcases tri3 (p - q) with h1 | h1 | h1
  · exact absurd h1 (by grind)
  · rw [h1, sgQ_zero]; omega
  · rw [sgQ_neg h1]; omega
theorem sumL_sz {l : List Rat} (h : ∀ q ∈ l, sz q ≤ 6000000000) : sz (sumL l) ≤ 1 + l.length * 6000000001 := by
  suffices hs : ∀ (m : List Rat) (a : Rat) (n : Nat), (∀ q ∈ m, sz q ≤ 6000000000) → sz a ≤ n → sz (m.foldl (· + ·) a) ≤ n + m.length * 6000000001 by
    have := hs l 0 1 h (by have := sz_small 0 (by decide); have e0 : ((0 : Int) : Rat) = 0 := rfl; rw [e0] at this; omega)
    exact this
  intro m
  induction m with
  | nil => intro a n _ h; simpa using h
  | cons q m ih =>
    intro a n hm ha
    have h1 := sz_add a q
    have h2 := hm q (by simp)
    have := ih (a + q) (n + 6000000001) (fun x hx => hm x (by simp [hx])) (by omega)
    simp only [List.foldl_cons, List.length_cons]
    omega
/-- The texts of numbers, a slice of strings. -/
def arow (l : List Rat) : List Value := l.map fun q => .string ⟨(ratText q).toArray⟩
theorem arow_len (l : List Rat) : (arow l).length = l.length := by unfold arow; rw [List.length_map]

set_option maxRecDepth 100000 in
set_option maxHeartbeats 6400000 in
theorem sadded_any (l : List Rat) (A : Option Addr) (c : Nat) (w : World) (hl : l.length ≤ 8) (hr : Rd w w.heap.size A (arow l)) (hs : ∀ q ∈ l, sz q ≤ 6000000000) :
    Calls Tryz.prog 41 #[.slice A l.length c] w fun e w' => Below w.heap.size w w' ∧ ∃ v, e = .returned (.tuple #[v, .bool true]) ∧ IsQ w' w'.heap.size v (sumL l) := by
  have HS := Lib.hid hs
  clear hs
  go_enter Tryz.func41, Tryz.ntmps41
  go_wp2_with fail
  have hb0 := below_alloc w (.cells #[.bool false, .slice none 0 0, .slice none 0 0] 66)
  have k0 := Bk.new w 66 #[Value.bool false, .slice none 0 0, .slice none 0 0]
  generalize w.alloc (.cells #[.bool false, .slice none 0 0, .slice none 0 0] 66) = w1 at *
  refine (intQ_any 0 w1 (by omega)).mono ?_
  rintro e w2 ⟨hb1, v2, rfl, hq2⟩
  obtain ⟨t2, E2, n2, d2, E2', n2', d2', rfl⟩ := hq2.form
  have hB2 := hb0.trans (hb1.mono hb0.size)
  have k2 := k0.below hb1 k0.lt
  have hlt := k2.lt
  go_wp2_with fail
  have hbA := below_alloc w2 (.cells #[.bool t2, .slice E2 n2 d2, .slice E2' n2' d2'] 66)
  have k3 := Bk.new w2 66 #[.bool t2, .slice E2 n2 d2, .slice E2' n2' d2']
  have hq3 := hq2.next hbA
  have k4 := k2.below hbA k2.lt
  have hB3 := hB2.trans (hbA.mono hB2.size)
  obtain ⟨g, hg⟩ : ∃ g, g = w2.heap.size := ⟨_, rfl⟩
  have hgw : w.heap.size < g := by rw [hg]; exact hlt
  rw [← hg] at k3 ⊢
  clear hb0 k0 hb1 hq2 hB2 k2 hlt hbA hg
  generalize w2.alloc (.cells #[.bool t2, .slice E2 n2 d2, .slice E2' n2' d2'] 66) = w3 at *
  go_loopw [5] (fun i wr => ∃ (k : Nat) (t : Bool) (E E' : Option Addr) (n d n' d' : Nat), k ≤ l.length ∧ i = .int .i64 k ∧ Bk wr g 66 #[.bool t, .slice E n d, .slice E' n' d'] ∧ IsQ wr wr.heap.size (.agg #[.bool t, .slice E n d, .slice E' n' d']) (sumL (l.take k)) ∧
      Bk wr w.heap.size 66 #[.bool false, .slice none 0 0, .slice none 0 0] ∧ Below w.heap.size w wr) (fun i _ => l.length - (intOf i).toNat)
  case atStart => exact ⟨0, t2, E2, E2', n2, d2, n2', d2', Nat.zero_le _, rfl, k3, hq3, k4, hB3⟩
  case round =>
    clear k3 hq3 k4 hB3
    obtain ⟨k, t, E, E', n, d, n', d', hk, rfl, kg, hq, kz, hB⟩ := hrel
    obtain ⟨a0, a1, a2⟩ := bk3 kg
    obtain ⟨z0, z1, z2⟩ := bk3 kz
    have f0 := kz.frozen 0
    have f1 := kz.frozen 1
    have f2 := kz.frozen 2
    rcases Nat.lt_or_ge k l.length with hlk | hgk
    · have hrk := hr.below hB
      obtain ⟨ad, rfl, hab, hc⟩ := hrk.at_ (k := k) (by unfold arow; rw [List.length_map]; exact hlk)
      have e5 : (arow l)[k]'(by unfold arow; rw [List.length_map]; exact hlk) = .string ⟨(ratText l[k]).toArray⟩ := by unfold arow; rw [List.getElem_map]
      rw [e5] at hc
      have hsk := HS.out _ (List.getElem_mem hlk)
      have HST : Hid (sumL (l.take (k + 1)) = sumL (l.take k) + l[k]) := sumL_take l hlk
      have hss : sz (sumL (l.take k)) ≤ 1 + 8 * 6000000001 := Nat.le_trans (sumL_sz (l := l.take k) fun q hq => HS.out q (List.mem_of_mem_take hq)) (by
        have h1 : (l.take k).length ≤ 8 := by rw [List.length_take]; omega
        have := Nat.mul_le_mul_right 6000000001 h1
        omega)
      generalize l[k] = qk at *
      clear e5 hrk
      have LT := qlong_text qk wr (by omega)
      generalize ratText qk = tx at *
      go_wp2_with fail
      refine LT.mono ?_
      rintro e w4 ⟨hb4, v4, rfl, hq4⟩
      obtain ⟨t4, E4, n4, d4, E4', n4', d4', rfl⟩ := hq4.form
      have kg4 := kg.next' hb4
      have kz4 := kz.next' hb4
      have hqs4 := hq.next hb4
      have hB4 := hB.trans (hb4.mono hB.size)
      clear LT a0 a1 a2 z0 z1 z2 f0 f1 f2 kg kz hq hB hb4 hc
      obtain ⟨a0, a1, a2⟩ := bk3 kg4
      have la0 := kg4.lt
      have hbA := below_alloc w4 (.cells #[.bool t4, .slice E4 n4 d4, .slice E4' n4' d4'] 66)
      have kg5 := kg4.next' hbA
      have kz5 := kz4.next' hbA
      have hqs5 := hqs4.next hbA
      have hq5 := hq4.next hbA
      have hB5 := hB4.trans (hbA.mono hB4.size)
      go_wp2_with fail
      clear a0 a1 a2 la0 kg4 kz4 hqs4 hq4 hB4 hbA
      generalize w4.alloc (.cells #[.bool t4, .slice E4 n4 d4, .slice E4' n4' d4'] 66) = w5 at *
      refine (qplus_any _ qk _ _ w5 hqs5 hq5 (by omega) (by omega)).mono ?_
      rintro e w6 ⟨hb6, v6, rfl, hq6⟩
      obtain ⟨t6, E6, n6, d6, E6', n6', d6', rfl⟩ := hq6.form
      have kg6 := kg5.next' hb6
      have kz6 := kz5.next' hb6
      have hB6 := hB5.trans (hb6.mono hB5.size)
      clear kg5 kz5 hqs5 hq5 hB5 hb6
      obtain ⟨a0, a1, a2⟩ := bk3 kg6
      have f0 := kg6.frozen 0
      have f1 := kg6.frozen 1
      have f2 := kg6.frozen 2
      go_wp2
      go_roundw
      case rel =>
        have hne : w.heap.size ≠ g := by omega
        exact ⟨k + 1, t6, E6, E6', n6, d6, n6', d6', by omega, by go_num, set3_bk kg6, by rw [HST.out]; exact (hq6.set3 kg6 _ _ _).more (by rw [show (World.setCell _ _ _) = set3 w6 g (.bool t6) (.slice E6 n6 d6) (.slice E6' n6' d6') from rfl, set3_size]; exact Nat.le_refl _), bk_far3 kz6 hne, set3_below hB6 (Nat.le_of_lt hgw)⟩
      case measure => simp [intOf]; omega
    · obtain rfl : k = l.length := by omega
      rw [List.take_length] at hq
      go_wp2
      refine bodyPost_ret (v := .tuple #[.agg #[.bool t, .slice E n d, .slice E' n' d'], .bool true]) (by simp [results, Tryz.results41, go_sem, z0, z1, z2]) rfl ?_
      have ST := hq.stored (w := w) kz hB (Nat.le_refl _)
      exact ⟨ST.1, _, rfl, ST.2⟩

theorem ratText_zero {q : Rat} (h : ratText q = [48]) : q = 0 := by
  have h1 := (isText_ratText q).2
  rw [h] at h1
  rw [← h1]
  decide +kernel
theorem text_ne {q : Rat} (h : 0 < q) : (ratText q == [48]) = false := by
  rw [beq_eq_false_iff_ne]
  intro e
  have := ratText_zero e
  grind

set_option maxRecDepth 100000 in
set_option maxHeartbeats 3200000 in
theorem fits_any (l : List Rat) (A : Option Addr) (c : Nat) (la : List Pl) (ma : Bool) (va : Value) (w : World) (hl : l.length ≤ 8) (hr : Rd w w.heap.size A (arow l)) (hs : ∀ q ∈ l, sz q ≤ 6000000000) (hpos : ∀ q ∈ l, 0 < q) (ha : IsC w w.heap.size va la ma) (ka : validC la) (hle : sumL l ≤ areaQ (poly la 0)) (he : EnvR w) :
    Calls Tryz.prog 20 #[.slice A l.length c, va] w fun e w' => Below w.heap.size w w' ∧ e = .returned (.bool true) := by
  have AD := Lib.hid (fun X (h : Below w.heap.size w X) => sadded_any l A c X hl ((hr.below h).more h.size) hs)
  have AR := Lib.hid (fun X (h : Below w.heap.size w X) => Area_any la ma va X ((ha.below h).more h.size) (he.next h) true ⟨fun _ => ka, fun _ => rfl⟩)
  have HLE := Lib.hid hle
  have hsz := areaC_szT ka
  have hsum : sz (sumL l) ≤ 1 + 8 * 6000000001 := Nat.le_trans (sumL_sz hs) (by have := Nat.mul_le_mul_right 6000000001 hl; omega)
  have HPOS := Lib.hid hpos
  obtain ⟨Aa, ca, rfl⟩ := ha.form
  simp only [if_true] at AR
  generalize areaQ (poly la 0) = qa at *
  generalize sumL l = qs at *
  have hcmp := cmpQ_le HLE.out
  clear hs hpos ha ka hle
  go_enter Tryz.func20, Tryz.ntmps20
  go_wp2_with fail
  have hB0 := below_alloc w (.cells #[.slice Aa la.length ca, .bool ma] 33)
  have k0 := Bk.new w 33 #[.slice Aa la.length ca, .bool ma]
  obtain ⟨b0, hb0⟩ : ∃ b, b = w.heap.size := ⟨_, rfl⟩
  rw [← hb0] at k0 ⊢
  clear hb0
  generalize (w.alloc (.cells #[.slice Aa la.length ca, .bool ma] 33)) = w0 at *
  refine (AD.out w0 hB0).mono ?_
  rintro e w1 ⟨hb1, v1, rfl, z1⟩
  obtain ⟨s1, A1, l1, c1, A1', l1', c1', rfl⟩ := z1.form
  have hB1 := hB0.trans (hb1.mono hB0.size)
  have k1 := k0.next' hb1
  have lk1 := k1.lt
  obtain ⟨g0, g1⟩ := bk2 k1
  have hw2 := below_alloc w1 (.cells #[.bool s1, .slice A1 l1 c1, .slice A1' l1' c1'] 66)
  have kq := Bk.new w1 66 #[.bool s1, .slice A1 l1 c1, .slice A1' l1' c1']
  have zq := z1.next hw2
  have hB2 := hB1.trans (hw2.mono hB1.size)
  obtain ⟨bq, hbq⟩ : ∃ b, b = w1.heap.size := ⟨_, rfl⟩
  clear AD hb1 hB0 k0 z1
  go_wp2_with fail
  rw [← hbq] at kq ⊢
  clear hbq g0 g1 lk1 k1 hB1 hw2
  generalize (w1.alloc (.cells #[.bool s1, .slice A1 l1 c1, .slice A1' l1' c1'] 66)) = w2 at *
  refine (AR.out w2 hB2).mono ?_
  rintro e w3 ⟨hb3, rfl⟩
  have hB3 := hB2.trans (hb3.mono hB2.size)
  have kq3 := kq.next' hb3
  have zq3 := zq.next hb3
  clear AR hb3 hB2 kq zq
  have LT := qlong_text qa w3 hsz
  generalize ratText qa = ta at *
  go_wp2_with fail
  refine LT.mono ?_
  rintro e w4 ⟨hb4, v4, rfl, z4⟩
  obtain ⟨s4, A4, l4, c4, A4', l4', c4', rfl⟩ := z4.form
  have hB4 := hB3.trans (hb4.mono hB3.size)
  have kq4 := kq3.next' hb4
  have zq4 := zq3.next hb4
  have hw5 := below_alloc w4 (.cells #[.bool s4, .slice A4 l4 c4, .slice A4' l4' c4'] 66)
  have ka := Bk.new w4 66 #[.bool s4, .slice A4 l4 c4, .slice A4' l4' c4']
  have za := z4.next hw5
  have hB5 := hB4.trans (hw5.mono hB4.size)
  have kq5 := kq4.next' hw5
  have zq5 := zq4.next hw5
  obtain ⟨ba, hba⟩ : ∃ b, b = w4.heap.size := ⟨_, rfl⟩
  clear LT hb4 hB3 kq3 zq3
  go_wp2_with fail
  rw [← hba] at ka ⊢
  clear hba hB4 kq4 zq4 z4 hw5
  generalize (w4.alloc (.cells #[.bool s4, .slice A4 l4 c4, .slice A4' l4' c4'] 66)) = w5 at *
  go_loopw [11] (fun x wr => ∃ i : Nat, i ≤ l.length ∧ x = .int .i64 i ∧ Below w5.heap.size w5 wr) (fun x _ => l.length - (intOf x).toNat)
  case atStart => exact ⟨0, Nat.zero_le _, rfl, Below.refl _ _⟩
  case round =>
    obtain ⟨i, hi, rfl, hBr⟩ := hrel
    have hB6 := hB5.trans (hBr.mono hB5.size)
    have kq6 := kq5.next' hBr
    have zq6 := zq5.next hBr
    have ka6 := ka.next' hBr
    have za6 := za.next hBr
    rcases Nat.lt_or_ge i l.length with hlt | hge
    · obtain ⟨ad, rfl, hab, d1⟩ := (hr.below hB6).at_ (k := i) (by rw [arow_len]; exact hlt)
      have e1 : (arow l)[i]'(by rw [arow_len]; exact hlt) = .string ⟨(ratText l[i]).toArray⟩ := by unfold arow; rw [List.getElem_map]
      rw [e1] at d1
      have hne := text_ne (HPOS.out _ (List.getElem_mem hlt))
      generalize ratText l[i] = tx at *
      have b1 : (0 : Int) ≤ (i : Int) := by omega
      have b2 : (i : Int) < (l.length : Int) := by omega
      clear e1
      go_wp2
      go_roundw
      case rel => exact ⟨i + 1, by omega, by go_num, hBr⟩
      case measure => simp [intOf]; omega
    · have hkl : i = l.length := by omega
      subst hkl
      obtain ⟨g0, g1, g2⟩ := bk3 kq6
      obtain ⟨g3, g4, g5⟩ := bk3 ka6
      go_wp2_with fail
      refine (qcmp_any qs qa _ _ _ zq6 za6 (by omega) (by omega)).mono ?_
      rintro e w6 ⟨hb6, rfl⟩
      have hB7 := hB6.trans (hb6.mono hB6.size)
      clear hb6 hB6 hBr hB5 kq5 zq5 ka za kq6 zq6 ka6 za6
      go_wp2
      go_ret
      exact ⟨hB7, rfl⟩
end Go.Proofs.YtaihplgfbepgpaaGreatDoor

namespace Go.Proofs.YtaihplgfbepgpaaGreatDoor
open Go.RowKit Ar

theorem Tryz.xstring_info : (Tryz.prog.info? 9).map (fun i => (i.zero, i.size, i.bytes)) = some (some (.string ⟨#[]⟩), 1, 16) := by kernel_rfl
theorem wErr_zero {bF bT ip xF xT gF gT : Bool} (h : wErr bF bT ip xF xT gF gT = 0) : bF = false ∧ bT = false ∧ ip = true ∧ xF = false ∧ xT = false ∧ gF = true ∧ gT = true := by
  cases bF <;> cases bT <;> cases ip <;> cases xF <;> cases xT <;> cases gF <;> cases gT <;> simp [wErr] at h ⊢
theorem fromA_take {l : List We} {k : Nat} {x : We} (h : l[k]? = some x) (i : Nat) : fromA (l.take (k + 1)) i = fromA (l.take k) i ++ (if x.1 = i then [x.2.2] else []) := by
  rw [List.take_add_one, h]
  show fromA (l.take k ++ [x]) i = _
  rw [fromA_app]
  congr 1
  unfold fromA
  by_cases h : x.1 = i <;> simp [h]
theorem toA_take {l : List We} {k : Nat} {x : We} (h : l[k]? = some x) (i : Nat) : toA (l.take (k + 1)) i = toA (l.take k) i ++ (if x.2.1 = i then [x.2.2] else []) := by
  rw [List.take_add_one, h]
  show toA (l.take k ++ [x]) i = _
  rw [toA_app]
  congr 1
  unfold toA
  by_cases h : x.2.1 = i <;> simp [h]
theorem arow_snoc (l : List Rat) (q : Rat) : arow (l ++ [q]) = arow l ++ [.string ⟨(ratText q).toArray⟩] := by unfold arow; simp
theorem fromA_new_len (q : Rat) (n j i : Nat) : (fromA (wNew q n j) i).length ≤ if n = i then 1 else 0 := by
  unfold wNew fromA
  split
  · by_cases h : n = i <;> simp [h]
  · split <;> simp
theorem from_one_len (F : List Ce) (tl : List Pl) (p : Int) (j i : Nat) : ∀ n, (fromA (wOne F tl p j n) i).length ≤ if i < n then 1 else 0
  | 0 => by simp [wOne, fromA]
  | n + 1 => by
    show (fromA (wOne F tl p j n ++ wNew _ n j) i).length ≤ _
    rw [fromA_app, List.length_append]
    have h1 := from_one_len F tl p j i n
    have h2 := fromA_new_len (rndQ (lst F n) tl p) n j i
    split at h1 <;> split at h2 <;> split <;> omega
theorem from_len (F T : List Ce) (p : Int) (i : Nat) : ∀ n, (fromA (wAll F T p n) i).length ≤ n
  | 0 => by simp [wAll, fromA]
  | n + 1 => by
    show (fromA (wAll F T p n ++ wOne F (lst T n) p n F.length) i).length ≤ _
    rw [fromA_app, List.length_append]
    have h1 := from_len F T p i n
    have h2 := from_one_len F (lst T n) p n i F.length
    split at h2 <;> omega
theorem to_one_len (F : List Ce) (tl : List Pl) (p : Int) (j k n : Nat) : (toA (wOne F tl p j n) k).length ≤ if j = k then n else 0 := by
  induction n with
  | zero => simp [wOne, toA]
  | succ n ih =>
    show (toA (wOne F tl p j n ++ wNew _ n j) k).length ≤ _
    rw [toA_app, List.length_append]
    have h2 : (toA (wNew (rndQ (lst F n) tl p) n j) k).length ≤ if j = k then 1 else 0 := by
      unfold wNew toA
      split
      · by_cases h : j = k <;> simp [h]
      · split <;> simp
    split at ih <;> split at h2 <;> (try split) <;> omega
theorem to_len (F T : List Ce) (p : Int) (k : Nat) : ∀ n, (toA (wAll F T p n) k).length ≤ if k < n then F.length else 0
  | 0 => by simp [wAll, toA]
  | n + 1 => by
    show (toA (wAll F T p n ++ wOne F (lst T n) p n F.length) k).length ≤ _
    rw [toA_app, List.length_append]
    have h1 := to_len F T p k n
    have h2 := to_one_len F (lst T n) p n k F.length
    split at h1 <;> split at h2 <;> split <;> omega
theorem fromA_mem {l : List We} {i : Nat} {q : Rat} (h : q ∈ fromA l i) : ∃ x ∈ l, x.2.2 = q := by
  obtain ⟨x, hx, rfl⟩ := List.mem_map.1 h
  exact ⟨x, (List.mem_filter.1 hx).1, rfl⟩
theorem toA_mem {l : List We} {i : Nat} {q : Rat} (h : q ∈ toA l i) : ∃ x ∈ l, x.2.2 = q := by
  obtain ⟨x, hx, rfl⟩ := List.mem_map.1 h
  exact ⟨x, (List.mem_filter.1 hx).1, rfl⟩

set_option maxRecDepth 100000 in
set_option maxHeartbeats 6400000 in
theorem shares_walk (F T : List Ce) (A A' : Option Addr) (cF cT : Nat) (p : Int) (w : World) (hF : IsCs w w.heap.size (.slice A F.length cF) F) (hT : IsCs w w.heap.size (.slice A' T.length cT) T) (he : EnvR w) (hlF : F.length ≤ maxLen) (hlT : T.length ≤ maxLen) (hmF : ∀ x ∈ F, x.1.length ≤ maxLen) (hmT : ∀ x ∈ T, x.1.length ≤ maxLen) :
    Calls Tryz.prog 6 #[.agg #[.slice A F.length cF, .slice A' T.length cT, .int .i64 p]] w fun e w' => Below w.heap.size w w' ∧ e = .returned (.bool true) := by
  obtain ⟨yF, hyF⟩ := bool_of (6 < F.length ∨ ∃ x ∈ F, 10 < x.1.length)
  obtain ⟨yT, hyT⟩ := bool_of (6 < T.length ∨ ∃ x ∈ T, 10 < x.1.length)
  have M1 := Lib.hid (fun X (h : Below w.heap.size w X) => Many_any F 6 _ X ((hF.below h).more h.size) (by omega) hlF yF hyF hmF)
  have M2 := Lib.hid (fun X (h : Below w.heap.size w X) => Many_any T 6 _ X ((hT.below h).more h.size) (by omega) hlT yT hyT hmT)
  have SN := Lib.hid (fun X (hX : Below w.heap.size w X) => sane_any X (he.next hX))
  have HyF := Lib.hid hyF
  have HyT := Lib.hid hyT
  have HHF := Lib.hid hF
  have HHT := Lib.hid hT
  have hcF := hF.cap
  have hcT := hT.cap
  obtain ⟨i0, hi0, hz0, hz1, hz2⟩ := info_parts Tryz.xstring_info
  clear hyF hyT hmF hmT hlF hlT hF hT
  go_enter Tryz.func6, Tryz.ntmps6
  go_wp2_with fail
  have hB0 := below_alloc w (.cells #[.slice A F.length cF, .slice A' T.length cT, .int .i64 p] 40)
  have k0 := Bk.new w 40 #[.slice A F.length cF, .slice A' T.length cT, .int .i64 p]
  obtain ⟨b0, hb0⟩ : ∃ b, b = w.heap.size := ⟨_, rfl⟩
  rw [← hb0] at k0 ⊢
  clear hb0
  generalize (w.alloc (.cells #[.slice A F.length cF, .slice A' T.length cT, .int .i64 p] 40)) = w0 at *
  refine (M1.out w0 hB0).mono ?_
  rintro e w1 ⟨hb1, rfl⟩
  have hB1 := hB0.trans (hb1.mono hB0.size)
  have k1 := k0.next' hb1
  obtain ⟨g0, g1, g2⟩ := bk3 k1
  clear M1 hb1 k0 hB0
  cases yF with
  | true =>
    go_wp2_with fail
    refine (SN.out _ hB1).mono ?_
    rintro e w2 ⟨hb2, rfl⟩
    have hB := hB1.trans (hb2.mono hB1.size)
    clear hb2 hB1
    go_wp2
    go_ret
    exact ⟨hB, rfl⟩
  | false =>
  go_wp2_with fail
  refine (M2.out w1 hB1).mono ?_
  rintro e w2 ⟨hb2, rfl⟩
  have hB2 := hB1.trans (hb2.mono hB1.size)
  have k2 := k1.next' hb2
  obtain ⟨g0, g1, g2⟩ := bk3 k2
  clear M2 hb2 k1 hB1
  cases yT with
  | true =>
    go_wp2_with fail
    refine (SN.out _ hB2).mono ?_
    rintro e w3 ⟨hb3, rfl⟩
    have hB := hB2.trans (hb3.mono hB2.size)
    clear hb3 hB2
    go_wp2
    go_ret
    exact ⟨hB, rfl⟩
  | false =>
  have lF : F.length ≤ 6 := by
    rcases Nat.lt_or_ge 6 F.length with h | h
    · have := HyF.out.2 (Or.inl h); cases this
    · omega
  have lT : T.length ≤ 6 := by
    rcases Nat.lt_or_ge 6 T.length with h | h
    · have := HyT.out.2 (Or.inl h); cases this
    · omega
  obtain ⟨bF, hbF⟩ := bool_of (∃ x ∈ F, ¬ validC x.1)
  obtain ⟨bT, hbT⟩ := bool_of (∃ x ∈ T, ¬ validC x.1)
  obtain ⟨ip, hip⟩ := bool_of (0 ≤ p ∧ p ≤ 1048576)
  obtain ⟨xF, hxF⟩ := bool_of (∃ x ∈ F, 0 < p ∧ p < wid x.1)
  obtain ⟨xT, hxT⟩ := bool_of (∃ x ∈ T, 0 < p ∧ p < wid x.1)
  obtain ⟨gF, hgF⟩ := bool_of (flatP p F)
  obtain ⟨gT, hgT⟩ := bool_of (flatP p T)
  have A1 := Lib.hid (fun X (hX : Below w.heap.size w X) => Weights_any F T _ _ p X ((HHF.out.below hX).more hX.size) ((HHT.out.below hX).more hX.size) (he.next hX) (by omega) (by omega) bF bT ip xF xT gF gT hbF hbT hip hxF hxT hgF hgT)
  have hl := wList_len F T p (wErr bF bT ip xF xT gF gT) (by omega) (by omega)
  obtain ⟨E, hE⟩ : ∃ E, E = wErr bF bT ip xF xT gF gT := ⟨_, rfl⟩
  rw [← hE] at A1 hl
  obtain ⟨l, hll⟩ : ∃ l, l = wList F T p E := ⟨_, rfl⟩
  rw [← hll] at A1 hl
  have HE0 : Hid (E ≠ 0 → l = []) := fun h => by rw [hll]; exact wList_err h
  have HLL : Hid (E = 0 → l = wAll F T p T.length ∧ (∀ x ∈ F, validC x.1) ∧ (∀ x ∈ T, validC x.1) ∧ (0 ≤ p ∧ p ≤ 1048576) ∧ (∀ x ∈ F, p = 0 ∨ wid x.1 ≤ p) ∧ (∀ x ∈ T, p = 0 ∨ wid x.1 ≤ p) ∧ flatP p F ∧ flatP p T) := fun h => by
    rw [h] at hE
    obtain ⟨e1, e2, e3, e4, e5, e6, e7⟩ := wErr_zero hE.symm
    rw [e1] at hbF
    rw [e2] at hbT
    rw [e4] at hxF
    rw [e5] at hxT
    have ipp := hip.1 e3
    refine ⟨by rw [hll, h]; rfl, fun x hx => Classical.byContradiction fun h0 => ?_, fun x hx => Classical.byContradiction fun h0 => ?_, ipp, fun x hx => Classical.byContradiction fun h0 => ?_, fun x hx => Classical.byContradiction fun h0 => ?_, hgF.1 e6, hgT.1 e7⟩
    · have := hbF.2 ⟨x, hx, h0⟩; cases this
    · have := hbT.2 ⟨x, hx, h0⟩; cases this
    · have := hxF.2 ⟨x, hx, by omega⟩; cases this
    · have := hxT.2 ⟨x, hx, by omega⟩; cases this
  clear hll hE hbF hbT hip hxF hxT hgF hgT HyF HyT
  go_wp2_with fail
  refine (A1.out w2 hB2).mono ?_
  rintro e w3 ⟨hb3, Aa, cca, rfl, ra⟩
  have hB3 := hB2.trans (hb3.mono hB2.size)
  have k3 := k2.next' hb3
  have kl3 := k3.lt
  clear A1 hb3 hB2 k2 g0 g1 g2
  by_cases e0 : E = 0
  rotate_left
  · have e1 : ((E : Int) != 0) = true := by simp; omega
    have e2 := HE0.out e0
    subst e2
    clear HE0 HLL e0
    go_wp2_with fail
    refine (SN.out _ hB3).mono ?_
    rintro e w4 ⟨hb4, rfl⟩
    have hB := hB3.trans (hb4.mono hB3.size)
    clear hb4 hB3
    go_wp2
    go_ret
    exact ⟨hB, rfl⟩
  obtain ⟨hl1, VF, VT, hpp, WF, WT, fF, fT⟩ := HLL.out e0
  have HFR : Hid (∀ i, i < F.length → (fromA l i).length ≤ 8 ∧ (∀ q ∈ fromA l i, sz q ≤ 6000000000 ∧ 0 < q) ∧ sumL (fromA l i) ≤ areaQ (poly (lst F i) 0)) := fun i hi => by
    rw [hl1]
    refine ⟨Nat.le_trans (from_len F T p i T.length) (by omega), fun q hq => ?_, ?_⟩
    · obtain ⟨x, hx, rfl⟩ := fromA_mem hq
      obtain ⟨h1, h2, h3, h4⟩ := wAll_mem hx
      refine ⟨?_, h1⟩
      rw [h4]
      exact rndQ_sz (lst_valid VF h2) (lst_valid VT h3) ⟨hpp, fun y hy => by simp at hy; rcases hy with rfl | rfl; exact (show p = 0 ∨ wid (lst F x.1) ≤ p from WF (lst F x.1, _) (List.mem_of_getElem? (lst_mem h2))); exact (show p = 0 ∨ wid (lst T x.2.1) ≤ p from WT (lst T x.2.1, _) (List.mem_of_getElem? (lst_mem h3)))⟩
    · rw [from_all VF VT i hi T.length (Nat.le_refl _)]
      exact src_le VF VT hpp.1 hpp.2 WT fT hi
  have HTO : Hid (∀ i, i < T.length → (toA l i).length ≤ 8 ∧ (∀ q ∈ toA l i, sz q ≤ 6000000000 ∧ 0 < q) ∧ sumL (toA l i) ≤ areaQ (poly (lst T i) 0)) := fun i hi => by
    rw [hl1]
    refine ⟨?_, fun q hq => ?_, ?_⟩
    · have := to_len F T p i T.length
      rw [if_pos hi] at this
      omega
    · obtain ⟨x, hx, rfl⟩ := toA_mem hq
      obtain ⟨h1, h2, h3, h4⟩ := wAll_mem hx
      refine ⟨?_, h1⟩
      rw [h4]
      exact rndQ_sz (lst_valid VF h2) (lst_valid VT h3) ⟨hpp, fun y hy => by simp at hy; rcases hy with rfl | rfl; exact (show p = 0 ∨ wid (lst F x.1) ≤ p from WF (lst F x.1, _) (List.mem_of_getElem? (lst_mem h2))); exact (show p = 0 ∨ wid (lst T x.2.1) ≤ p from WT (lst T x.2.1, _) (List.mem_of_getElem? (lst_mem h3)))⟩
    · rw [to_all VF VT i T.length (Nat.le_refl _), if_pos hi]
      exact tgt_le VF VT hpp.1 hpp.2 WF fF hi
  have HVF := Lib.hid VF
  have HVT := Lib.hid VT
  have e1 : ((E : Int) != 0) = false := by simp; omega
  have HFI := Lib.hid (fun (q : List Rat) (A : Option Addr) (c : Nat) (la : List Pl) (ma : Bool) (va : Value) (X : World) (hX : Below w.heap.size w X) (h1 : q.length ≤ 8) h2 h3 h4 h5 h6 h7 => fits_any q A c la ma va X h1 h2 h3 h4 h5 h6 h7 (he.next hX))
  clear HE0 HLL e0 hl1 VF VT hpp WF WT fF fT
  go_wp2_with fail
  go_loopw [5] (fun x wr => ∃ i : Nat, i ≤ F.length ∧ x = .int .i64 i ∧ Below w3.heap.size w3 wr) (fun x _ => F.length - (intOf x).toNat)
  case atStart => exact ⟨0, Nat.zero_le _, rfl, Below.refl _ _⟩
  case round =>
    obtain ⟨i, hi, rfl, hBr⟩ := hrel
    have hB := hB3.trans (hBr.mono hB3.size)
    have hsr := hB.size
    have kr := k3.next' hBr
    obtain ⟨g0, g1, g2⟩ := bk3 kr
    rcases Nat.lt_or_ge i F.length with hlt | hge
    · have hra := (ra.below hBr).more hBr.size
      have b1 : (i : Int) < F.length := by omega
      have b2 : (0 : Int) ≤ i := by omega
      go_wp2_with fail
      obtain ⟨wo, hwo⟩ : ∃ wo : World, wo = wr := ⟨_, rfl⟩
      subst hwo
      go_loopw [6, 7] (fun pv x wi => ∃ k : Nat, k ≤ l.length ∧ x = .int .i64 k ∧ (∃ n, Hid (n = (fromA (l.take k) i).length) ∧ wi.ownsRow wo.heap.size 9 1 pv n (arow (fromA (l.take k) i))) ∧ Below wo.heap.size wo wi) (fun _ x _ => l.length - (intOf x).toNat)
      case atStart => exact ⟨0, Nat.zero_le _, rfl, ⟨0, rfl, World.ownsRow_nil _ _ _ _⟩, Below.refl _ _⟩
      case round =>
        obtain ⟨k, hk, rfl, ⟨n, hn, own⟩, hBi⟩ := hrel
        have hsi := hBi.size
        rcases Nat.lt_or_ge k l.length with hltk | hgek
        · obtain ⟨ad, rfl, hab, d1, d2, d3⟩ := ((hra.below hBi).more hsi).weight (List.getElem?_eq_getElem hltk)
          have HTK := Lib.hid (fromA_take (List.getElem?_eq_getElem hltk) i)
          have hn8 : n ≤ 1000000 := by
            rw [hn.out]
            unfold fromA
            rw [List.length_map]
            have h1 := List.length_filter_le (fun x : We => decide (x.1 = i)) (l.take k)
            rw [List.length_take] at h1
            omega
          generalize l[k] = x at *
          obtain ⟨x1, x2, x3⟩ := x
          simp only at d1 d2 d3 HTK
          have b3 : (k : Int) < l.length := by omega
          have b4 : (0 : Int) ≤ k := by omega
          by_cases hx : x1 = i
          · have hxe : ((x1 : Int) == (i : Int)) = true := by simp; omega
            have HT2 : Hid (arow (fromA (l.take (k + 1)) i) = arow (fromA (l.take k) i) ++ [.string ⟨(ratText x3).toArray⟩]) := by show _ = _; rw [HTK.out, if_pos hx, arow_snoc]
            have HL2 : Hid ((fromA (l.take (k + 1)) i).length = n + 1) := by show _ = _; rw [HTK.out, if_pos hx, List.length_append, ← hn.out]; rfl
            generalize ratText x3 = tx at *
            generalize arow (fromA (l.take k) i) = rows at *
            clear HTK hx hn
            go_wp2_with (at_builtin; refine wpL_append _ rfl (.tmp 58) (.tmp 64) _ rfl wo.heap.size 9 i0 _ 1 16 Tryz.underlying25 hi0 hz0 hz1 hz2 rfl (by omega) _ n rows rfl (own.alloc _) (some ⟨wr.heap.size, 0, none⟩) 1 1 [.string ⟨tx.toArray⟩] rfl rfl (Rd.of_new wr [.string ⟨tx.toArray⟩] 9) (by intro u hu; simp at hu; subst hu; rfl) (by unfold maxLen; omega) (by omega) (by simp; omega) ?_; intro v6 w6 hw1 hw2 _)
            have hB6 := below_app (hBi.alloc hsi _) hw2 (by simp; omega) (own.alloc _) (Nat.le_refl _)
            rw [← HT2.out] at hw1
            clear own hw2
            go_roundw
            case rel => exact ⟨k + 1, by omega, by go_num, ⟨n + 1, HL2.out.symm, hw1⟩, hB6⟩
            case measure => simp [intOf]; omega
          · have hxe : ((x1 : Int) == (i : Int)) = false := by simp; omega
            have HT2 : Hid (fromA (l.take (k + 1)) i = fromA (l.take k) i) := by show _ = _; rw [HTK.out, if_neg hx, List.append_nil]
            clear HTK hx
            go_wp2
            go_roundw
            case rel => exact ⟨k + 1, by omega, by go_num, ⟨n, by rw [HT2.out]; exact hn, by rw [HT2.out]; exact own⟩, hBi⟩
            case measure => simp [intOf]; omega
        · obtain rfl : k = l.length := by omega
          rw [List.take_length] at own hn
          obtain ⟨Ap, cp, rfl, _⟩ := own_slice own
          have hrd := Rd.of_own own
          obtain ⟨h1, h2, h3⟩ := HFR.out i hlt
          have hBk := hB.trans (hBi.mono hsr)
          have ki := kr.next' hBi
          obtain ⟨g0, g1, g2⟩ := bk3 ki
          have hval := lst_valid HVF.out hlt
          obtain ⟨ad, A1, c1, rfl, hab, d1, d2, hC⟩ := (HHF.out.below hBk).at (i := i) (lst_mem hlt)
          simp only at d1 d2 hC
          have FI := HFI.out (fromA l i) Ap cp (lst F i) _ _ _ hBk h1 hrd (fun q hq => (h2 q hq).1) (fun q hq => (h2 q hq).2) (hC.more hBk.size) hval h3
          rw [← hn.out] at FI
          generalize lst F i = li at *
          generalize (F.getD i ([], false)).2 = bi at *
          clear own hrd h1 h2 h3 hn hval hC
          go_wp2_with fail
          refine FI.mono ?_
          rintro e w7 ⟨hb7, rfl⟩
          have hB7 := hBi.trans (hb7.mono hsi)
          have hB8 := hBr.trans (hB7.mono hBr.size)
          clear FI hb7 hBi hB7 d1 d2
          go_wp2
          go_roundw
          case rel => exact ⟨i + 1, by omega, by go_num, hB8⟩
          case measure => simp [intOf]; omega
    · obtain rfl : i = F.length := by omega
      have hBq := hBr
      clear kr hi hge hB hsr hBr
      go_wp2_with fail
      go_loopw [8] (fun x wr => ∃ i : Nat, i ≤ T.length ∧ x = .int .i64 i ∧ Below w3.heap.size w3 wr) (fun x _ => T.length - (intOf x).toNat)
      case atStart => exact ⟨0, Nat.zero_le _, rfl, hBq⟩
      case round =>
        obtain ⟨i, hi, rfl, hBr⟩ := hrel
        have hB := hB3.trans (hBr.mono hB3.size)
        have hsr := hB.size
        have kr := k3.next' hBr
        obtain ⟨g0, g1, g2⟩ := bk3 kr
        rcases Nat.lt_or_ge i T.length with hlt | hge
        · have hra := (ra.below hBr).more hBr.size
          have b1 : (i : Int) < T.length := by omega
          have b2 : (0 : Int) ≤ i := by omega
          go_wp2_with fail
          obtain ⟨wo, hwo⟩ : ∃ wo : World, wo = wr := ⟨_, rfl⟩
          subst hwo
          go_loopw [9, 10] (fun pv x wi => ∃ k : Nat, k ≤ l.length ∧ x = .int .i64 k ∧ (∃ n, Hid (n = (toA (l.take k) i).length) ∧ wi.ownsRow wo.heap.size 9 1 pv n (arow (toA (l.take k) i))) ∧ Below wo.heap.size wo wi) (fun _ x _ => l.length - (intOf x).toNat)
          case atStart => exact ⟨0, Nat.zero_le _, rfl, ⟨0, rfl, World.ownsRow_nil _ _ _ _⟩, Below.refl _ _⟩
          case round =>
            obtain ⟨k, hk, rfl, ⟨n, hn, own⟩, hBi⟩ := hrel
            have hsi := hBi.size
            rcases Nat.lt_or_ge k l.length with hltk | hgek
            · obtain ⟨ad, rfl, hab, d1, d2, d3⟩ := ((hra.below hBi).more hsi).weight (List.getElem?_eq_getElem hltk)
              have HTK := Lib.hid (toA_take (List.getElem?_eq_getElem hltk) i)
              have hn8 : n ≤ 1000000 := by
                rw [hn.out]
                unfold toA
                rw [List.length_map]
                have h1 := List.length_filter_le (fun x : We => decide (x.2.1 = i)) (l.take k)
                rw [List.length_take] at h1
                omega
              generalize l[k] = x at *
              obtain ⟨x1, x2, x3⟩ := x
              simp only at d1 d2 d3 HTK
              have b3 : (k : Int) < l.length := by omega
              have b4 : (0 : Int) ≤ k := by omega
              by_cases hx : x2 = i
              · have hxe : ((x2 : Int) == (i : Int)) = true := by simp; omega
                have HT2 : Hid (arow (toA (l.take (k + 1)) i) = arow (toA (l.take k) i) ++ [.string ⟨(ratText x3).toArray⟩]) := by show _ = _; rw [HTK.out, if_pos hx, arow_snoc]
                have HL2 : Hid ((toA (l.take (k + 1)) i).length = n + 1) := by show _ = _; rw [HTK.out, if_pos hx, List.length_append, ← hn.out]; rfl
                generalize ratText x3 = tx at *
                generalize arow (toA (l.take k) i) = rows at *
                clear HTK hx hn
                go_wp2_with (at_builtin; refine wpL_append _ rfl (.tmp 94) (.tmp 100) _ rfl wo.heap.size 9 i0 _ 1 16 Tryz.underlying25 hi0 hz0 hz1 hz2 rfl (by omega) _ n rows rfl (own.alloc _) (some ⟨wr.heap.size, 0, none⟩) 1 1 [.string ⟨tx.toArray⟩] rfl rfl (Rd.of_new wr [.string ⟨tx.toArray⟩] 9) (by intro u hu; simp at hu; subst hu; rfl) (by unfold maxLen; omega) (by omega) (by simp; omega) ?_; intro v6 w6 hw1 hw2 _)
                have hB6 := below_app (hBi.alloc hsi _) hw2 (by simp; omega) (own.alloc _) (Nat.le_refl _)
                rw [← HT2.out] at hw1
                clear own hw2
                go_roundw
                case rel => exact ⟨k + 1, by omega, by go_num, ⟨n + 1, HL2.out.symm, hw1⟩, hB6⟩
                case measure => simp [intOf]; omega
              · have hxe : ((x2 : Int) == (i : Int)) = false := by simp; omega
                have HT2 : Hid (toA (l.take (k + 1)) i = toA (l.take k) i) := by show _ = _; rw [HTK.out, if_neg hx, List.append_nil]
                clear HTK hx
                go_wp2
                go_roundw
                case rel => exact ⟨k + 1, by omega, by go_num, ⟨n, by rw [HT2.out]; exact hn, by rw [HT2.out]; exact own⟩, hBi⟩
                case measure => simp [intOf]; omega
            · obtain rfl : k = l.length := by omega
              rw [List.take_length] at own hn
              obtain ⟨Ap, cp, rfl, _⟩ := own_slice own
              have hrd := Rd.of_own own
              obtain ⟨h1, h2, h3⟩ := HTO.out i hlt
              have hBk := hB.trans (hBi.mono hsr)
              have ki := kr.next' hBi
              obtain ⟨g0, g1, g2⟩ := bk3 ki
              have hval := lst_valid HVT.out hlt
              obtain ⟨ad, A1, c1, rfl, hab, d1, d2, hC⟩ := (HHT.out.below hBk).at (i := i) (lst_mem hlt)
              simp only at d1 d2 hC
              have FI := HFI.out (toA l i) Ap cp (lst T i) _ _ _ hBk h1 hrd (fun q hq => (h2 q hq).1) (fun q hq => (h2 q hq).2) (hC.more hBk.size) hval h3
              rw [← hn.out] at FI
              generalize lst T i = li at *
              generalize (T.getD i ([], false)).2 = bi at *
              clear own hrd h1 h2 h3 hn hval hC
              go_wp2_with fail
              refine FI.mono ?_
              rintro e w7 ⟨hb7, rfl⟩
              have hB7 := hBi.trans (hb7.mono hsi)
              have hB8 := hBr.trans (hB7.mono hBr.size)
              clear FI hb7 hBi hB7 d1 d2
              go_wp2
              go_roundw
              case rel => exact ⟨i + 1, by omega, by go_num, hB8⟩
              case measure => simp [intOf]; omega
        · obtain rfl : i = T.length := by omega
          go_wp2_with fail
          refine (SN.out wr hB).mono ?_
          rintro e w8 ⟨hb8, rfl⟩
          have hB9 := hB.trans (hb8.mono hB.size)
          clear hb8
          go_wp2
          go_ret
          exact ⟨hB9, rfl⟩
end Go.Proofs.YtaihplgfbepgpaaGreatDoor
