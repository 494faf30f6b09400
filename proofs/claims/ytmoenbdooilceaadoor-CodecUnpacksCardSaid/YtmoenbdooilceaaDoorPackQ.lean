/-
  Walk: the reference's Unpack.
-/
import Derived.Test.YtmoenbdooilceaaDoorPackJ
import Derived.Test.YtmoenbdooilceaaDoorPackP
import Derived.RegionTactic
import Derived.Test.YtmoenbdooilceaaDoorCodG
import Derived.StillTactics
import Derived.Deep.RegionWith
import Derived.Deep.QuietTactic
import Derived.BigQuiet
namespace Go.Proofs.YtmoenbdooilceaaDoor
open Go.RowKit By

/-- What the reference's unpacked answers. -/
theorem runpacked_any (A : Option Addr) (c n : Nat) (b : List Nat) (w : World) (h1 : 1 ≤ n) (h8 : n ≤ 8) (hl : Bytes b) (hc : b.length ≤ c) (hm : b.length ≤ 1048576) (h : Rd w w.heap.size A (ints .u8 b)) :
    Calls Tryd.prog 54 #[.slice A b.length c, .int .i64 n] w fun e w' => Below w.heap.size w w' ∧
      ((ukOkR b n ∧ ∃ v u, e = .returned (.tuple #[v, u, .bool true]) ∧ IsL w' w'.heap.size .u64 v (gs (ukG b n) (ukN b)) ∧ IsL w' w'.heap.size .u8 u (ukR b n)) ∨
        (¬ ukOkR b n ∧ e = .returned (.tuple #[.slice none 0 0, .slice none 0 0, .bool false]))) := by
  unfold ukOkR
  by_cases hs : b.length < 4
  · exact (runpacked_short A c n b w hs).mono fun e w' h => ⟨h.1 ▸ Below.refl _ _, .inr ⟨fun x => by omega, h.2⟩⟩
  · by_cases h0 : ukN b = 0
    · refine (runpacked_none A c n b w hl (by omega) hc h0 h).mono ?_
      rintro e w' ⟨hb, u, rfl, hu⟩
      have e : ukR b n = b.drop 4 := by unfold ukR; rw [h0, if_pos rfl]
      exact ⟨hb, .inl ⟨⟨by omega, .inl h0⟩, _, u, rfl, by rw [h0]; exact IsL.nil _ _ _, by rw [e]; exact hu⟩⟩
    · by_cases hbad : ukN b ≤ 1048576 ∧ n + 1 ≤ (b.drop 4).length ∧ ukW b n ≤ 64
      · by_cases hg : ukS b n ≤ (ukF b n).length
        · refine (runpacked_good A c n b w h1 h8 hl hc hm h0 hbad.1 hbad.2.1 hbad.2.2 hg h).mono ?_
          rintro e w' ⟨hb, v, u, rfl, hv, hu⟩
          exact ⟨hb, .inl ⟨⟨by omega, .inr ⟨hbad.1, hbad.2.1, hbad.2.2, hg⟩⟩, v, u, rfl, hv, hu⟩⟩
        · refine (runpacked_far A c n b w h1 h8 hl hc hm h0 hbad.1 hbad.2.1 hbad.2.2 (by omega) h).mono ?_
          rintro e w' ⟨hb, rfl⟩
          refine ⟨hb, .inr ⟨?_, rfl⟩⟩
          rintro ⟨_, h2 | h2⟩
          · exact h0 h2
          · exact hg h2.2.2.2
      · refine (runpacked_bad A c n b w h1 h8 hl (by omega) hc hm h0 hbad h).mono ?_
        rintro e w' ⟨hb, rfl⟩
        refine ⟨hb, .inr ⟨?_, rfl⟩⟩
        rintro ⟨_, h2 | h2⟩
        · exact h0 h2
        · exact hbad ⟨h2.1, h2.2.1, h2.2.2.1⟩

/-- The reference asks more, and comes to the same. -/
theorem uOk_ref {b : List Nat} (hl : Bytes b) {n : Nat} (h1 : 1 ≤ n) (h8 : n ≤ 8) :
    uOk b n ↔ ukOkR b n ∧ ukN b * n + (ukR b n).length ≤ 1048576 ∧ packB (ukG b n) (ukN b) n (ukR b n) = b ∧ packL (ukB b n) n = b := by
  have hlen : (ukB b n).length = ukN b * n + (ukR b n).length := by unfold ukB; rw [List.length_append, jn_len]
  constructor
  · rintro ⟨⟨h4, h⟩, h2, h3⟩
    refine ⟨⟨h4, ?_⟩, by rw [← hlen]; exact h2, pack_again h8 hl h2 h3, h3⟩
    rcases h with h0 | ⟨a1, a2, a3, a4⟩
    · exact .inl h0
    · exact .inr ⟨Nat.le_trans a2 (Nat.div_le_self _ _), a1, a3, a4⟩
  · rintro ⟨⟨h4, h⟩, h2, _, h3⟩
    refine ⟨⟨h4, ?_⟩, by rw [hlen]; exact h2, h3⟩
    rcases h with h0 | ⟨a1, a2, a3, a4⟩
    · exact .inl h0
    · exact .inr ⟨a2, (Nat.le_div_iff_mul_le h1).2 (by omega), a3, a4⟩
theorem bstr_inj {l r : List Nat} (hl : Bytes l) (hr : Bytes r) (h : bstr l = bstr r) : l = r := by
  unfold bstr at h
  injection h with h
  have h2 : l.map UInt8.ofNat = r.map UInt8.ofNat := by simpa using h
  have e : ∀ x : List Nat, Bytes x → (x.map UInt8.ofNat).map UInt8.toNat = x := fun x hx => by
    rw [List.map_map]
    refine (List.map_congr_left (g := id) fun y hy => ?_).trans (List.map_id x)
    have := hx y hy
    simp only [Function.comp_apply, id]
    rw [UInt8.toNat_ofNat']; omega
  rw [← e l hl, h2, e r hr]
theorem gs_bound {f : Nat → Nat} {k : Nat} (h : ∀ i, f i < 2 ^ 64) (j : Nat) : el (gs f k) j < 2 ^ 64 := by
  refine el_bound (fun x hx => ?_) j
  simp only [gs, List.mem_map, List.mem_range] at hx
  obtain ⟨i, _, rfl⟩ := hx
  exact h i

theorem drest0 {w w' : World} {A : Option Addr} {l : List Nat} (h : Rd w w.heap.size A (ints .u8 l)) (hb : Below w.heap.size w w') : Rd w'.drew w'.drew.heap.size A (ints .u8 l) := (h.below hb).more hb.size

end Go.Proofs.YtmoenbdooilceaaDoor
