/-
  Words: one append of a drawn region.
-/
import Derived.Test.YtpkhgdnkkdhlcaaGreatDoorBoxW
import Derived.Test.YtpkhgdnkkdhlcaaGreatDoorHlX
import Derived.Sort.CutIn
namespace Go.Proofs.YtpkhgdnkkdhlcaaGreatDoor
open Go.RowKit Ix Ar

theorem step_append_own {P : Program} {w : World} {o : Oper} {a : Act} {K : Act → World → Prop} {Q : Exit → Act → World → Prop} (s x : Operand) (t : TypeId)
    (ho : o.op = .call { callee := .builtin .append, args := #[s, x], argTypes := #[t, t] })
    (base : Nat) (e : TypeId) (i : TypeInfo) (z : Value) (size bytes : Nat) (ht : P.underlying t = some (.slice e)) (hi : P.info? e = some i) (hz : i.zero = some z)
    (hsize : i.size = size) (hby : i.bytes = bytes) (hzs : z.cells.size = size) (hsz : 0 < size)
    (v : Value) (n : Nat) (xs : List Value) (hs : a.eval s = v) (hown : w.ownsRow base e size v n xs)
    (ad : Addr) (m c : Nat) (news : List Value) (hx : a.eval x = .slice (some ad) m c) (hl : news.length = m * size) (hnews : ∀ j u, news[j]? = some u → w.cell? (ad.add j) = some u) (h1 : ∀ u ∈ news, u.oneCell' = true)
    (h63 : n + m ≤ maxLen) (hbytes : (n + m) * bytes ≤ 140737488355328) (hbase : base ≤ w.heap.size)
    (h : ∀ v' w', w'.ownsRow base e size v' (n + m) (xs ++ news) → w.grownBy w' v.ownBlock → K (a.put o.dst v') w') :
    Oper.wp P o a w K Q := by
  obtain ⟨v', w', hr, h2, h3, _, _⟩ := run_append_own_at (P := P) w base t o.type e i z size bytes ht hi hz hsize hby hzs hsz v n xs hown ad m c news hl hnews h1 h63 hbytes hbase
  unfold Oper.wp execOp
  simp only [ho, resolve, invoke, builtin, Sem.run_bind, Sem.run_pure, Result.andThen_ok, List.map_toArray, List.map_cons, List.map_nil, hs, hx, hr]
  exact h v' w' h2 h3

theorem new_str (w : World) (T : TypeId) (x : ByteArray) (j : Nat) (u : Value) (h : [Value.string x][j]? = some u) : (w.alloc (.cells #[.string x] T)).cell? ((⟨w.heap.size, 0, none⟩ : Addr).add j) = some u := by
  have k := (Bk.new w T #[Value.string x]).cell (0 + j)
  rw [addr_mk, k]
  simpa using h
section
variable {P : Program} {md : Region.Mode} {Q : Exit → Act → World → Prop} {S : World → Prop} {l : List Oper} {i j : Nat} {oi oj : Oper} {fuel : Nat} {listed : Array Bool} {a : Act} {w : World}
/-- Two operations may come up. -/
theorem stepA2 (hi : l[i]? = some oi) (hj : l[j]? = some oj) (hr : Region.ready md l.toArray listed = [i, j])
    (h : ∀ K' : Act → World → Prop, Shut (∀ a w, S w → (S w → wpAnyH P md l.toArray Q S fuel (listed.setIfInBounds i true) a w) → K' a w) → if Region.wanted oi (yielded l.toArray a.tmps) = true then Oper.wp P oi a w K' Q else K' (a.put oi.dst undef) w)
    (h' : ∀ K' : Act → World → Prop, Shut (∀ a w, S w → (S w → wpAnyH P md l.toArray Q S fuel (listed.setIfInBounds j true) a w) → K' a w) → if Region.wanted oj (yielded l.toArray a.tmps) = true then Oper.wp P oj a w K' Q else K' (a.put oj.dst undef) w) :
    wpAnyH P md l.toArray Q S (fuel + 1) listed a w :=
  wpAnyH_ready hr (by simp) (AllReadyH.cons (by simpa using hi) h (AllReadyH.cons (by simpa using hj) h' AllReadyH.nil))
theorem stepA3 {k : Nat} {ok : Oper} (hi : l[i]? = some oi) (hj : l[j]? = some oj) (hk : l[k]? = some ok) (hr : Region.ready md l.toArray listed = [i, j, k])
    (h : ∀ K' : Act → World → Prop, Shut (∀ a w, S w → (S w → wpAnyH P md l.toArray Q S fuel (listed.setIfInBounds i true) a w) → K' a w) → if Region.wanted oi (yielded l.toArray a.tmps) = true then Oper.wp P oi a w K' Q else K' (a.put oi.dst undef) w)
    (h' : ∀ K' : Act → World → Prop, Shut (∀ a w, S w → (S w → wpAnyH P md l.toArray Q S fuel (listed.setIfInBounds j true) a w) → K' a w) → if Region.wanted oj (yielded l.toArray a.tmps) = true then Oper.wp P oj a w K' Q else K' (a.put oj.dst undef) w)
    (h'' : ∀ K' : Act → World → Prop, Shut (∀ a w, S w → (S w → wpAnyH P md l.toArray Q S fuel (listed.setIfInBounds k true) a w) → K' a w) → if Region.wanted ok (yielded l.toArray a.tmps) = true then Oper.wp P ok a w K' Q else K' (a.put ok.dst undef) w) :
    wpAnyH P md l.toArray Q S (fuel + 1) listed a w :=
  wpAnyH_ready hr (by simp) (AllReadyH.cons (by simpa using hi) h (AllReadyH.cons (by simpa using hj) h' (AllReadyH.cons (by simpa using hk) h'' AllReadyH.nil)))
end
section
variable {P : Program} {ops : Array Oper} {Q : Exit → Act → World → Prop} {md : Region.Mode} {n : Nat}
theorem wpIn_of_wpW {o : Oper} {a : Act} {w : World} {K : Act → World → Prop} (h : o.wp P a w K Q) : o.wpIn Fence.wide n P a w K Q := by
  refine ⟨fun _ _ => trivial, ?_⟩
  rw [show Fence.wide.round = none from rfl, Oper.semAt_none]
  unfold Oper.wp at h
  generalize (execOp a.eval o).run P w = r at *
  cases r with
  | ok x w' =>
    cases x with
    | value v => exact h
    | skip => exact h
    | defer d => exact h
    | enter f args => exact ⟨fun h => (by cases h), callsIn_wide.2 h⟩
    | row row args => exact ⟨fun h => (by cases h), fun c cs _ => let ⟨v, w', r, s⟩ := h c cs; ⟨v, w', r, stepsIn_wide.2 s⟩⟩
    | _ => exact h.elim
  | halt x w' => cases x <;> exact h
theorem wpOpIn_ofW {i : Nat} {a : Act} {w : World} {K : Act → World → Prop} (hL : ¬ LetsOut Q) (h : wpOp P ops Q i K a w) : wpOpIn Fence.wide n P ops Q i K a w := by
  unfold wpOp at h
  unfold wpOpIn
  cases ho : ops[i]? with
  | none => rw [ho] at h; exact h
  | some o =>
    rw [ho] at h
    simp only at h ⊢
    split
    · rename_i hw
      rw [if_pos hw] at h
      rcases h with h | h
      · exact wpIn_of_wpW h
      · exact absurd h.2 hL
    · rename_i hw
      rw [if_neg hw] at h
      exact ⟨fun _ _ => trivial, h⟩
theorem wpAnyIn_ofW (hL : ¬ LetsOut Q) : ∀ (fuel : Nat) (listed : Array Bool) (a : Act) (w : World), wpAny P md ops Q fuel listed a w → wpAnyIn Fence.wide n P md ops Q fuel listed a w
  | 0, _, _, _, h => h
  | fuel + 1, _, _, _, h => ⟨h.1, fun i hi => wpOpIn_ofW hL (wpOp_mono (fun a' w' h' => wpAnyIn_ofW hL fuel _ a' w' h') (h.2 i hi))⟩
/-- A region that draws its order, at the fence that asks nothing. -/
theorem region_wideH {id : Nat} {l : List Oper} {a : Act} {w : World} (hm : P.follows .mixedOrders = true) (hL : ¬ LetsOut Q) (S : World → Prop) (hS : S w.drew)
    (h : S w.drew → wpAnyH P .any l.toArray Q S l.toArray.size (Array.replicate l.toArray.size false) a w.drew) : (Code.region id l.toArray true).wpIn Fence.wide n P Q a w :=
  wpIn_region_any hm (wpAnyIn_ofW hL _ _ _ _ (wpAny_of_held _ _ _ _ (h hS)))
end
/-- Only the common way out. -/
def onlyN (Q : Exit → Act → World → Prop) : Exit → Act → World → Prop
  | .normal, a, w => Q .normal a w
  | _, _, _ => False
theorem region_wideN {P : Program} {Q : Exit → Act → World → Prop} {n id : Nat} {l : List Oper} {a : Act} {w : World} (hm : P.follows .mixedOrders = true) (S : World → Prop) (hS : S w.drew)
    (h : S w.drew → wpAnyH P .any l.toArray (onlyN Q) S l.toArray.size (Array.replicate l.toArray.size false) a w.drew) : (Code.region id l.toArray true).wpIn Fence.wide n P Q a w :=
  wpIn_mono (region_wideH hm (fun ⟨_, _, h⟩ => h) S hS h) (fun e a w h => by cases e <;> first | exact h | exact False.elim h)
theorem doneN {P : Program} {ops : Array Oper} {Q : Exit → Act → World → Prop} {S : World → Prop} {md : Region.Mode} {listed : Array Bool} {a : Act} {w : World} (hr : Region.ready md ops listed = []) (h : Q .normal a w) (fuel : Nat) : wpAnyH P md ops (onlyN Q) S fuel listed a w := wpAnyH_done (Q := onlyN Q) hr (show onlyN Q .normal a w from h) fuel
/-- A text of a row of the call's own. -/
theorem own_text {w : World} {base : Nat} {T : TypeId} {v : Value} {l : List ByteArray} (h : w.ownsRow base T 1 v l.length (strs l)) {j : Nat} (hj : j < l.length) :
    ∃ g c, v = .slice (some ⟨g, 0, none⟩) l.length c ∧ base ≤ g ∧ w.cell? ⟨g, j, none⟩ = some (.string l[j]) ∧ w.frozen? ⟨g, j, none⟩ = false ∧ ∀ x, (w.setCell ⟨g, j, none⟩ (.string x)).ownsRow base T 1 v l.length (strs (l.set j x)) := by
  rcases h.2 with ⟨rfl, e⟩ | ⟨g, cap, cur, rfl, hbg, hg, hnc, hcm, hcs, htake⟩
  · rw [e] at hj; exact absurd hj (Nat.not_lt_zero _)
  have hb : Bk w g T cur := hg
  have hj2 : j < cur.size := by rw [hcs]; omega
  have hcell : cur[j]? = some (.string l[j]) := by
    have h1 : (cur.toList.take (l.length * 1))[j]? = (strs l)[j]? := by rw [htake]
    rw [List.getElem?_take_of_lt (by omega)] at h1
    rw [Array.getElem?_toList] at h1
    rw [h1]
    simp [strs, List.getElem?_eq_getElem hj]
  refine ⟨g, cap, rfl, hbg, (hb.cell j).trans hcell, hb.frozen j, fun x => ⟨by rw [strs_len, List.length_set, Nat.mul_one], .inr ⟨g, cap, cur.setIfInBounds j (.string x), rfl, hbg, hb.put j _, hnc, hcm, by rw [Array.size_setIfInBounds]; exact hcs, ?_⟩⟩⟩
  have e1 : strs (l.set j x) = (strs l).set j (.string x) := by simp [strs, List.map_set]
  rw [e1, ← htake, Array.toList_setIfInBounds, List.take_set]

end Go.Proofs.YtpkhgdnkkdhlcaaGreatDoor

