/-
  Words: appends that keep the numbers in memory; blocks side by side.
-/
import Derived.Test.YtpkhgdnkkdhlcaaGreatDoorFracB
namespace Go.Proofs.YtpkhgdnkkdhlcaaGreatDoor
open Go.RowKit Ar

/-- A block without numbers. -/
def NoIntB (w : World) (g : Option Nat) : Prop := ∀ b, g = some b → ∀ j k i, w.cell? ⟨b, j, none⟩ ≠ some (.int k i)
theorem addr_plus (ad : Addr) (m j : Nat) : (⟨(ad.add m).block, (ad.add m).off + (j + 1), none⟩ : Addr) = ad.add (m + (j + 1)) := by
  unfold Addr.add
  rw [if_neg (show m + (j + 1) ≠ 0 by omega)]
  by_cases h : m = 0
  · subst h; simp
  · simp [h, Nat.add_assoc]
/-- Numbers are kept. -/
def Ints (w w' : World) : Prop := ∀ (p : Addr) k i, w.cell? p = some (.int k i) → w'.cell? p = some (.int k i)
theorem ints_grown {w w' : World} {g : Option Nat} (hg : w.grownBy w' g) (hn : NoIntB w g) : Ints w w' := fun p k i hp => by
  have hlt := World.block_lt_of_cell? _ _ hp
  have hsp : p.spot = none := by
    unfold World.cell? at hp
    split at hp
    · split at hp
      · cases hp
      · rename_i h0; simpa using h0
    · cases hp
  have hne : some p.block ≠ g := fun e => hn p.block e.symm p.off k i (by
    have : (⟨p.block, p.off, none⟩ : Addr) = p := by rw [← hsp]
    rw [this]; exact hp)
  unfold World.cell? at hp ⊢
  rw [hg.block p.block hlt hne]
  exact hp
theorem IsN.kept {w w' : World} {B : Nat} {k : IntKind} {v : Value} {n : Nat} (h : IsN w B k v n) (hg : Ints w w') : IsN w' B k v n := by
  obtain ⟨A, c, e, h1, h3⟩ := h
  refine ⟨A, c, e, h1, fun hn => ?_⟩
  obtain ⟨ad, e2, hb, hc⟩ := h3 hn
  refine ⟨ad, e2, hb, fun j u hu => ?_⟩
  have h5 := hc j u hu
  have hm : u ∈ ints k (limbs n) := List.mem_of_getElem? hu
  simp only [ints, List.mem_map] at hm
  obtain ⟨y, _, rfl⟩ := hm
  exact hg _ _ _ h5
theorem IsF.kept {w w' : World} {B : Nat} {v : Value} {q : Rat} (h : IsF w B v q) (hg : Ints w w') : IsF w' B v q := by
  obtain ⟨N', D', e, k1, k2⟩ := h
  exact ⟨N', D', e, k1.kept hg, k2.kept hg⟩
theorem Bk.next' {X Y : World} {g : Nat} {t : TypeId} {cs : Array Value} (h : Bk X g t cs) (hb : Below X.heap.size X Y) : Bk Y g t cs := h.below hb h.lt
theorem Bk.new2 (w : World) (o : Obj) (t : TypeId) (cs : Array Value) : Bk ((w.alloc o).alloc (.cells cs t)) (w.heap.size + 1) t cs := by simpa using Bk.new (w.alloc o) t cs
end Go.Proofs.YtpkhgdnkkdhlcaaGreatDoor

