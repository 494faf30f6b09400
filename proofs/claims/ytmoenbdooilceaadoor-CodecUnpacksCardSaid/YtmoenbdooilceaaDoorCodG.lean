/-
  Walks: bytes as strings; the laws' words 'is' and 'back'.
-/
import Derived.Test.YtmoenbdooilceaaDoorCodF
import Derived.Laws.BytesArg
namespace Go.Proofs.YtmoenbdooilceaaDoor
open Go.RowKit By

/-- Bytes as a string. -/
def bstr (l : List Nat) : ByteArray := ⟨(l.map UInt8.ofNat).toArray⟩
theorem run_to_string {P : Program} {w : World} {B : Nat} {A : Option Addr} {l : List Nat} (h : Rd w B A (ints .u8 l)) (src e dst : TypeId) (hs : P.underlying src = some (.slice e)) (he : P.underlying e = some (.int .u8)) (hd : P.underlying dst = some .string) (n c : Nat) (hn : l.length = n) :
    (convert src dst (.slice A n c)).run P w = .ok (.string (bstr l)) w := by
  subst hn
  rcases A with _ | ad
  · have hl : l = [] := by
      rcases Classical.em (l = []) with h0 | h0
      · exact h0
      · obtain ⟨_, h2, _⟩ := h (by simpa [ints] using h0)
        cases h2
    subst hl
    exact run_convert_bytes_nil w src e hs he _ c dst hd
  · have hl : (loadCells ad l.length).run P w = .ok ((l.map fun (x : Nat) => (x : Int)).map (Value.int .u8)).toArray w := by
      have := run_loadCells_list (P := P) w ad (ints .u8 l) (fun j v hj => by
        obtain ⟨ad', h2, _, hc⟩ := h (by rintro e; rw [e] at hj; simp at hj)
        injection h2 with h2
        subst h2
        exact hc j v hj)
      rw [ints_length] at this
      rw [this]
      simp [ints]
    rw [run_convert_bytes_string w src dst e _ l.length c hs he hd, run_bytesToString w _ l.length c _ hl, foldl_push_bytes]
    simp [bstr, ByteArray.empty, ByteArray.emptyWithCapacity]
    rfl
theorem bstr_self (l : List Nat) : ((bstr l).toList == (bstr l).toList) = true := by simp

set_option maxHeartbeats 400000 in
theorem is_true (v u : Value) (l : List Nat) (e : Int) (w : World) (h : IsL w w.heap.size .u8 v l) (h' : IsL w w.heap.size .u8 u l) :
    Calls Tryd.prog 15 #[v, .int .i64 e, u, .int .i64 e] w fun e w' => w = w' ∧ e = .returned (.bool true) := by
  obtain ⟨A, c, rfl, _, h3⟩ := h
  obtain ⟨A2, c2, rfl, _, k3⟩ := h'
  have s1 := run_to_string (P := Tryd.prog) h3 22 5 9 Tryd.underlying22 Tryd.underlying5 Tryd.underlying9 l.length c rfl
  have s2 := run_to_string (P := Tryd.prog) k3 22 5 9 Tryd.underlying22 Tryd.underlying5 Tryd.underlying9 l.length c2 rfl
  have s3 := bstr_self l
  generalize bstr l = s at *
  generalize l.length = n at *
  go_enter Tryd.func15, Tryd.ntmps15
  go_wp2
  go_ret
  exact ⟨rfl, rfl⟩

set_option maxHeartbeats 400000 in
theorem back_true (v u : Value) (l : List Nat) (w : World) (h : IsL w w.heap.size .u8 v l) (h' : IsL w w.heap.size .u8 u l) :
    Calls Tryd.prog 20 #[v, .int .i64 0, u] w fun e w' => w = w' ∧ e = .returned (.bool true) := by
  obtain ⟨A, c, rfl, _, h3⟩ := h
  obtain ⟨A2, c2, rfl, _, k3⟩ := h'
  have s1 := run_to_string (P := Tryd.prog) h3 22 5 9 Tryd.underlying22 Tryd.underlying5 Tryd.underlying9 l.length c rfl
  have s2 := run_to_string (P := Tryd.prog) k3 22 5 9 Tryd.underlying22 Tryd.underlying5 Tryd.underlying9 l.length c2 rfl
  have s3 := bstr_self l
  generalize bstr l = s at *
  generalize l.length = n at *
  go_enter Tryd.func20, Tryd.ntmps20
  go_wp2
  go_ret
  exact ⟨rfl, rfl⟩
end Go.Proofs.YtmoenbdooilceaaDoor
