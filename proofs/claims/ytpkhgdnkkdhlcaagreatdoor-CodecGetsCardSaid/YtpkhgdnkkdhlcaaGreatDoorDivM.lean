/-
  Plain mathematics: the long division.
-/
import Derived.Test.YtpkhgdnkkdhlcaaGreatDoorNum
namespace Go.Proofs.YtpkhgdnkkdhlcaaGreatDoor.Ar
/-- The state of a long division: what is left, and the digits found so far. -/
structure DS (U V n N J : Nat) (us qs : List Nat) : Prop where
  ul : us.length = N
  usm : Small us
  ql : qs.length + n = N
  qsm : Small qs
  sum : val us + V * val qs = U
  top : val (us.drop J) < V
  low : ∀ i, i < J → qs.getD i 0 = 0

theorem val_drop_eq (l : List Nat) {j : Nat} (h : j < l.length) : val (l.drop j) = l.getD j 0 + B * val (l.drop (j + 1)) := by
  rw [List.drop_eq_getElem_cons h, val_cons, List.getD_eq_getElem?_getD, List.getElem?_eq_getElem h]; rfl

section
variable {U V n N j : Nat} {us qs : List Nat}
theorem DS.above (h : DS U V n N (j + 1) us qs) (hV : V < B ^ n) : val (us.drop (j + 1 + n)) = 0 := by
  rcases Nat.eq_zero_or_pos (val (us.drop (j + 1 + n))) with h0 | h0
  · exact h0
  · have e := val_split (us.drop (j + 1)) n
    rw [List.drop_drop] at e
    have hl : n ≤ (us.drop (j + 1)).length := by
      rcases Nat.lt_or_ge (us.length) (j + 1 + n) with h1 | h1
      · rw [List.drop_of_length_le (by omega)] at h0; exact absurd h0 (by simp [val])
      · simp; omega
    rw [Nat.min_eq_left hl] at e
    have := h.top
    have h2 : B ^ n * 1 ≤ B ^ n * val (us.drop (j + 1 + n)) := Nat.mul_le_mul_left _ h0
    omega
theorem DS.part (h : DS U V n N (j + 1) us qs) (hV : V < B ^ n) : val ((us.drop j).take (n + 1)) = val (us.drop j) := by
  have e := val_split (us.drop j) (n + 1)
  rw [List.drop_drop, show j + (n + 1) = j + 1 + n by omega, h.above hV] at e
  omega
theorem DS.lt (h : DS U V n N (j + 1) us qs) (hV : V < B ^ n) (hj : j + (n + 1) ≤ N) : val ((us.drop j).take (n + 1)) < V * B := by
  rw [h.part hV, val_drop_eq us (by have := h.ul; omega)]
  have h1 := h.usm.getD j
  have h2 : B * (val (us.drop (j + 1)) + 1) ≤ B * V := Nat.mul_le_mul_left _ h.top
  rw [Nat.mul_comm V B]
  rw [Nat.mul_add] at h2
  omega
theorem DS.whole (h : DS U V n N (j + 1) us qs) (hV : V < B ^ n) (hj : j + (n + 1) ≤ N) : val us = val (us.take j) + B ^ j * val ((us.drop j).take (n + 1)) := by
  rw [h.part hV]
  have e := val_split us j
  rw [Nat.min_eq_left (by have := h.ul; omega)] at e
  exact e

theorem DS.none (h : DS U V n N (j + 1) us qs) (hV : V < B ^ n) (hj : j + (n + 1) ≤ N) (hd : val ((us.drop j).take (n + 1)) / V = 0) : DS U V n N j us (qs.set j 0) := by
  have hvp : 0 < V := Nat.lt_of_le_of_lt (Nat.zero_le _) h.top
  have hq : qs.set j 0 = qs := by
    have := h.low j (by omega)
    have hjl : j < qs.length := by have := h.ql; omega
    apply List.ext_getElem?
    intro i
    by_cases e : j = i
    · subst e
      rw [List.getD_eq_getElem?_getD, List.getElem?_eq_getElem hjl] at this
      simp only [Option.getD_some] at this
      rw [List.getElem?_set_self hjl, List.getElem?_eq_getElem hjl, this]
    · rw [List.getElem?_set_ne e]
  rw [hq]
  refine ⟨h.ul, h.usm, h.ql, h.qsm, h.sum, ?_, fun i hi => h.low i (by omega)⟩
  rw [← h.part hV]
  rcases Nat.div_eq_zero_iff.1 hd with h0 | h0
  · omega
  · exact h0

theorem DS.some (h : DS U V n N (j + 1) us qs) (hV : V < B ^ n) (hj : j + (n + 1) ≤ N) {d : Nat} (hd : val ((us.drop j).take (n + 1)) / V = d) :
    DS U V n N j (us.take j ++ (limbs (val ((us.drop j).take (n + 1)) - V * d) ++ List.replicate (n + 1 - (limbs (val ((us.drop j).take (n + 1)) - V * d)).length) 0) ++ us.drop (j + (n + 1))) (qs.set j d) := by
  have hvp : 0 < V := Nat.lt_of_le_of_lt (Nat.zero_le _) h.top
  have hwhole := h.whole hV hj
  have hlt := h.lt hV hj
  have hab := h.above hV
  have hul := h.ul
  generalize val ((us.drop j).take (n + 1)) = W at *
  have hr : W - V * d < V := by rw [mod_of_div hd]; exact Nat.mod_lt _ hvp
  have hle : V * d ≤ W := by rw [← hd]; exact Nat.mul_div_le W V
  have hdB : d < B := by rw [← hd]; exact Nat.div_lt_of_lt_mul hlt
  have hlr : (limbs (W - V * d)).length ≤ n := limbs_len_le (by omega)
  have hjl : j < qs.length := by have := h.ql; omega
  have hz : (limbs (W - V * d) ++ List.replicate (n + 1 - (limbs (W - V * d)).length) 0).length = n + 1 := by simp; omega
  have hvz : val (limbs (W - V * d) ++ List.replicate (n + 1 - (limbs (W - V * d)).length) 0) = W - V * d := by rw [val_append, val_replicate, val_limbs]; simp
  have hsz : Small (limbs (W - V * d) ++ List.replicate (n + 1 - (limbs (W - V * d)).length) 0) := (Small.limbs _).append (Small.replicate _)
  generalize limbs (W - V * d) ++ List.replicate (n + 1 - (limbs (W - V * d)).length) 0 = zs at *
  have ht : (us.take j).length = j := by simp; omega
  have hdr : (us.take j ++ zs ++ us.drop (j + (n + 1))).drop j = zs ++ us.drop (j + (n + 1)) := by
    rw [List.append_assoc, List.drop_append_of_le_length (by omega), List.drop_of_length_le (by omega), List.nil_append]
  have hab' : val (us.drop (j + (n + 1))) = 0 := by rw [show j + (n + 1) = j + 1 + n by omega]; exact hab
  have hvd : val (zs ++ us.drop (j + (n + 1))) = W - V * d := by rw [val_append, hab', hvz]; simp
  refine ⟨?_, ((h.usm.take j).append hsz).append (h.usm.drop _), by rw [List.length_set]; exact h.ql, h.qsm.set hdB, ?_, ?_, ?_⟩
  · simp only [List.length_append, List.length_drop, ht, hz]; omega
  · have e1 : val (us.take j ++ zs ++ us.drop (j + (n + 1))) = val (us.take j) + B ^ j * (W - V * d) := by
      rw [List.append_assoc, val_append, ht, hvd]
    have e2 := val_set qs j d hjl
    rw [h.low j (by omega), Nat.mul_zero, Nat.add_zero] at e2
    have e3 := h.sum
    rw [e1, e2]
    rw [hwhole] at e3
    have e4 : B ^ j * W = B ^ j * (W - V * d) + B ^ j * (V * d) := by rw [← Nat.mul_add]; congr 1; omega
    rw [e4] at e3
    have e5 : V * (val qs + B ^ j * d) = V * val qs + B ^ j * (V * d) := by grind
    rw [e5]
    omega
  · rw [hdr, hvd]; exact hr
  · intro i hi
    rw [List.getD_eq_getElem?_getD, List.getElem?_set_ne (by omega), ← List.getD_eq_getElem?_getD]
    exact h.low i (by omega)
end

theorem DS.done {a b f n N : Nat} {us qs : List Nat} (h : DS (a * f) (b * f) n N 0 us qs) (hf : 0 < f) (hV : b * f < B ^ n) (hn : n ≤ N) : val qs = a / b ∧ val us / f = a % b ∧ val (us.take n) = val us := by
  have hs := h.sum
  have ht := h.top
  rw [List.drop_zero] at ht
  have hb : 0 < b := by rcases Nat.eq_zero_or_pos b with rfl | h0; · simp at ht
                        · exact h0
  have e1 : a * f / (b * f) = val qs := by
    rw [← hs, Nat.add_mul_div_left _ _ (by omega), Nat.div_eq_of_lt ht, Nat.zero_add]
  have e2 : a * f % (b * f) = val us := by
    rw [← hs, Nat.add_mul_mod_self_left, Nat.mod_eq_of_lt ht]
  rw [Nat.mul_div_mul_right _ _ hf] at e1
  rw [Nat.mul_mod_mul_right] at e2
  refine ⟨e1.symm, by rw [← e2, Nat.mul_div_cancel _ hf], ?_⟩
  have e := val_split us n
  rw [Nat.min_eq_left (by have := h.ul; omega)] at e
  rcases Nat.eq_zero_or_pos (val (us.drop n)) with h0 | h0
  · rw [h0] at e; omega
  · have h2 : B ^ n * 1 ≤ B ^ n * val (us.drop n) := Nat.mul_le_mul_left _ h0
    omega

/-- The top limb of a number, and the factor that makes it great. -/
theorem top_limb {b n : Nat} (hb : 0 < b) (hn : (limbs b).length = n + 1) : 0 < (limbs b).getD n 0 ∧ (limbs b).getD n 0 < B ∧ b = val ((limbs b).take n) + B ^ n * (limbs b).getD n 0 ∧ val ((limbs b).take n) < B ^ n := by
  obtain ⟨m, x, hm, hx⟩ := limbs_top hb
  have hml : m.length = n := by rw [hm] at hn; simpa using hn
  have hg : (limbs b).getD n 0 = x := by
    rw [hm, List.getD_eq_getElem?_getD, List.getElem?_append_right (by omega), hml, Nat.sub_self]; rfl
  have hs := Small.limbs b
  have ht : (limbs b).take n = m := by rw [hm, ← hml, List.take_left']; rfl
  refine ⟨by rw [hg]; exact hx, hs.getD n, ?_, ?_⟩
  · rw [hg, ht, ← hml, ← val_snoc, ← hm, val_limbs]
  · have := val_lt (hs.take n)
    rw [List.length_take, Nat.min_eq_left (by omega)] at this
    exact this
theorem norm_fits {b n t f : Nat} (hb : 0 < b) (hn : (limbs b).length = n + 1) (ht : (limbs b).getD n 0 = t) (hf : f = B / (t + 1)) : 0 < f ∧ f < B ∧ b * f < B ^ (n + 1) ∧ (limbs (b * f)).length = n + 1 := by
  obtain ⟨h1, h2, h3, h4⟩ := top_limb hb hn
  rw [ht] at h1 h2 h3
  have hf0 : 0 < f := by rw [hf]; exact Nat.div_pos (by omega) (by omega)
  have hfm : f * (t + 1) ≤ B := by rw [hf]; exact Nat.div_mul_le_self _ _
  have hfB : f < B := by
    have : f * 2 ≤ f * (t + 1) := Nat.mul_le_mul_left _ (by omega)
    have := B_pos
    omega
  have hlt : b < B ^ n * (t + 1) := by rw [Nat.mul_add]; omega
  have h5 : b * f < B ^ (n + 1) := by
    have e1 : b * f < B ^ n * (t + 1) * f := Nat.mul_lt_mul_of_pos_right hlt hf0
    have e2 : B ^ n * (t + 1) * f = B ^ n * (f * (t + 1)) := by grind
    have e3 : B ^ n * (f * (t + 1)) ≤ B ^ n * B := Nat.mul_le_mul_left _ hfm
    rw [Nat.pow_succ]; omega
  refine ⟨hf0, hfB, h5, Nat.le_antisymm (limbs_len_le h5) ?_⟩
  rw [← hn]
  apply len_mono
  exact Nat.le_mul_of_pos_right _ hf0
theorem top_two {ws : List Nat} {n : Nat} (hl : ws.length = n + 2) (hs : Small ws) : val ws / B ^ n = ws.getD (n + 1) 0 * B + ws.getD n 0 := by
  have e1 := val_take_ge ws (n + 1)
  rw [val_take_all ws (by omega), val_take_ge ws n] at e1
  have h4 := val_lt (hs.take n)
  rw [List.length_take, Nat.min_eq_left (by omega)] at h4
  rw [e1, Nat.pow_succ]
  have e2 : val (List.take n ws) + B ^ n * ws.getD n 0 + B ^ n * B * ws.getD (n + 1) 0 = val (List.take n ws) + B ^ n * (ws.getD (n + 1) 0 * B + ws.getD n 0) := by grind
  rw [e2, Nat.add_mul_div_left _ _ (Nat.pow_pos B_pos), Nat.div_eq_of_lt h4, Nat.zero_add]
theorem part_getD (us : List Nat) (j m i : Nat) (h : i < m) : ((us.drop j).take m).getD i 0 = us.getD (j + i) 0 := by
  rw [List.getD_eq_getElem?_getD, List.getElem?_take, if_pos h, List.getElem?_drop, ← List.getD_eq_getElem?_getD]
theorem DS.start {U V n N : Nat} {us : List Nat} (hl : us.length = N) (hs : Small us) (hn : n ≤ N) (hU : val us = U) (hV : U < V * B ^ (N - n)) : DS U V n N (N - n) us (List.replicate (N - n) 0) := by
  refine ⟨hl, hs, by simp; omega, Small.replicate _, by rw [val_replicate]; omega, ?_, fun i _ => by rw [List.getD_eq_getElem?_getD, List.getElem?_replicate]; split <;> rfl⟩
  have e := val_split us (N - n)
  rw [Nat.min_eq_left (by omega)] at e
  have : B ^ (N - n) * val (us.drop (N - n)) < B ^ (N - n) * V := by rw [Nat.mul_comm _ V]; omega
  exact Nat.lt_of_mul_lt_mul_left this
end Go.Proofs.YtpkhgdnkkdhlcaaGreatDoor.Ar

