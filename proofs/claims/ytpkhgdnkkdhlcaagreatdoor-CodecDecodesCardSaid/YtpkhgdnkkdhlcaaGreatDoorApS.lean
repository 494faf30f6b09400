/-
  Of no program: append of a string to a row of bytes of the call's own.
-/
import Derived.Test.YtpkhgdnkkdhlcaaGreatDoorWords
import Derived.Laws.AppendOwn
namespace Go.Proofs.YtpkhgdnkkdhlcaaGreatDoor
open Go Go.RowKit

section
variable {P : Program} {w : World}
/-- A string's bytes as cells. -/
def byc (s : ByteArray) : List Value := s.data.toList.map fun b => Value.int .u8 b.toNat
theorem byc_len (s : ByteArray) : (byc s).length = s.size := by unfold byc; rw [List.length_map]; rfl
theorem firstCells_str (size : Nat) (s : ByteArray) : Builtin.firstCells size s.size (.string s) = (pure (byc s).toArray : Sem (Array Value)) := by
  have h : (s.extract 0 s.size).data = s.data := by
    rw [ByteArray.data_extract]
    exact Array.extract_size
  show (pure ((s.extract 0 s.size).data.map fun b => Value.int .u8 b.toNat) : Sem (Array Value)) = _
  rw [h]
  unfold byc
  have h2 : (s.data.map fun b => Value.int .u8 (b.toNat : Int)) = (s.data.toList.map fun b => Value.int .u8 (b.toNat : Int)).toArray := by apply Array.ext'; rw [Array.toList_map, List.toList_toArray]
  rw [h2]
theorem byc_one (s : ByteArray) : ∀ u ∈ byc s, u.oneCell' = true := by
  intro u hu; obtain ⟨x, _, rfl⟩ := List.mem_map.1 hu; rfl
theorem run_append_own_str (base : Nat) (t u ty e : TypeId) (i : TypeInfo) (z : Value) (bytes : Nat) (ht : P.underlying t = some (.slice e)) (hu : P.underlying u = some .string) (hi : P.info? e = some i) (hz : i.zero = some z)
    (hsize : i.size = 1) (hby : i.bytes = bytes) (hzs : z.cells.size = 1)
    (v : Value) (n : Nat) (xs : List Value) (hown : w.ownsRow base e 1 v n xs) (s : ByteArray)
    (h63 : n + s.size ≤ maxLen) (hbytes : (n + s.size) * bytes ≤ 140737488355328) (hbase : base ≤ w.heap.size) :
    ∃ v' w', (Builtin.append_ #[t, u] ty #[v, .string s]).run P w = .ok v' w' ∧ w'.ownsRow base e 1 v' (n + s.size) (xs ++ byc s) ∧ w.grownBy w' v.ownBlock := by
  subst hby
  have hsmall : n + s.size ≤ 9223372036854775807 := by simp only [maxLen] at h63; omega
  have hl := byc_len s
  have hx0 := hown.1
  rw [Nat.mul_one] at hx0
  have hlen : (xs ++ byc s).length = (n + s.size) * 1 := by rw [List.length_append, hx0, hl, Nat.mul_one]
  have hfs := fun size => firstCells_str size s
  generalize hm : s.size = m at *
  have grown : ∀ (old : Nat), old < n + m → ∀ (row : Option Nat),
      (w.drew.alloc (.cells (xs.toArray ++ (byc s).toArray ++ Builtin.zeroCells z.cells (grownCap w (n + m) old e - (n + m))) e)).ownsRow base e 1
        (.slice (some ⟨w.heap.size, 0, none⟩) (n + m) (grownCap w (n + m) old e)) (n + m) (xs ++ byc s) ∧
      w.grownBy (w.drew.alloc (.cells (xs.toArray ++ (byc s).toArray ++ Builtin.zeroCells z.cells (grownCap w (n + m) old e - (n + m))) e)) row := by
    intro old ho row
    have hge := grownCap_ge w (n + m) old e
    have hcm : grownCap w (n + m) old e ≤ maxLen := grownCap_le_maxLen w (n + m) old e h63
    refine ⟨⟨hlen, .inr ⟨w.heap.size, _, _, rfl, hbase, heap_alloc_new w.drew _, hge, hcm, ?_, ?_⟩⟩, ⟨rfl, rfl, rfl, by simp, fun k hk _ => heap_alloc_old w.drew _ k hk⟩⟩
    · simp only [Array.size_append, List.size_toArray, size_zeroCells, hzs, hx0, hl]
      omega
    · simp only [Array.toList_append, List.append_assoc]
      rw [← List.append_assoc, ← hlen]
      exact List.take_left
  rcases hown.2 with ⟨rfl, rfl⟩ | ⟨g, cap, cur, rfl, hbg, hg, hnc, hcm, hcs, htake⟩
  · have hx : xs = [] := List.eq_nil_of_length_eq_zero hx0
    subst hx
    by_cases hm0 : m = 0
    · subst hm0
      have hn : byc s = [] := List.eq_nil_of_length_eq_zero hl
      refine ⟨.slice none 0 0, w, ?_, by rw [hn]; exact World.ownsRow_nil w base e 1, ⟨rfl, rfl, rfl, Nat.le_refl _, fun _ _ _ => rfl⟩⟩
      simp [Builtin.append_, run_underlying ht, run_underlying hu, sizeOf, typeInfo, hi, Builtin.lenOf, hm, hfs]
    · have hn : m ≠ 0 := hm0
      have h63' : ¬ (9223372036854775807 < (m : Int)) := by omega
      have h48' : ¬ (281474976710656 < Builtin.nextslicecap m 0 * i.bytes) := by rw [nextslicecap_zero (by omega)]; simp only [Nat.zero_add] at hbytes; omega
      have hgr := grown 0 (by omega) (Value.ownBlock (.slice none 0 0))
      simp only [Nat.zero_add, List.nil_append, Array.empty_append] at hgr ⊢
      refine ⟨_, _, ?_, hgr.1, hgr.2⟩
      simp [Builtin.append_, run_underlying ht, run_underlying hu, sizeOf, typeInfo, zeroValue, hi, hz, Builtin.lenOf, hm, hn, h63', h48', Question.forced, run_firstCells_none, hfs, newRow, grownCap]
  · by_cases hroom : n + m ≤ cap
    · have hfit : n * 1 + (byc s).length ≤ cur.size := by omega
      have hst := run_storeCells_at P g (n * 1) e (byc s) 0 cur w hg (by simpa using hfit) (byc_one s)
      simp only [Nat.add_zero] at hst
      have hr : (Builtin.append_ #[t, u] ty #[.slice (some ⟨g, 0, none⟩) n cap, .string s]).run P w = .ok (.slice (some ⟨g, 0, none⟩) (n + m) cap) (w.setRow g (cur.toList.take (n * 1) ++ byc s ++ cur.toList.drop (n * 1 + (byc s).length)).toArray) := by
        simp [Builtin.append_, run_underlying ht, run_underlying hu, sizeOf, typeInfo, hi, hsize, Builtin.lenOf, hm, hroom, hfs, Addr.add_lit]
        have hst' : Sem.run P (storeCells { block := g, off := n } (byc s)) w = Result.ok () (w.setRow g (List.take n cur.toList ++ (byc s ++ List.drop (n + (byc s).length) cur.toList)).toArray) := by simpa using hst
        rw [hst']
        rfl
      refine ⟨_, _, hr, ⟨hlen, .inr ⟨g, cap, _, rfl, hbg, setRow_heap w g cur _ e _ hg, hroom, hcm, ?_, ?_⟩⟩, ⟨rfl, rfl, rfl, by simp, fun k _ hk => setRow_other w g k _ (fun e => hk (by simp [Value.ownBlock, e]))⟩⟩
      · simp only [List.size_toArray, List.length_append, List.length_take, List.length_drop, Array.length_toList]
        omega
      · rw [htake, ← hlen]
        exact List.take_left
    · have holds : ∀ j u, xs[j]? = some u → w.cell? ((⟨g, 0, none⟩ : Addr).add j) = some u := hown.cells (g := g) rfl
      have hn : ¬ (n + m ≤ cap) := hroom
      have h63' : ¬ (9223372036854775807 < ((n : Int) + (m : Int))) := by omega
      have h48' : ¬ (281474976710656 < Builtin.nextslicecap (n + m) cap * i.bytes) := by
        have := growslice_fits (show cap < n + m by omega) hbytes
        omega
      have hfo := run_firstCells_some (P := P) w.drew i.size n ⟨g, 0, none⟩ n cap xs (by rw [hsize]; omega) (by simpa using holds)
      have hgr := grown cap (by omega) (Value.ownBlock (.slice (some ⟨g, 0, none⟩) n cap))
      refine ⟨_, _, ?_, hgr.1, hgr.2⟩
      simp [Builtin.append_, run_underlying ht, run_underlying hu, sizeOf, typeInfo, zeroValue, hi, hz, Builtin.lenOf, hm, hn, h63', h48', Question.forced, hfs, hfo, newRow, grownCap]
      congr 2
      apply Array.ext'
      simp [List.append_assoc]
end
section
variable {P : Program} (w : World)
theorem wpL_append_str {ops : Array Oper} {rest : List Oper} {o : Oper} {a : Act} {Q : Exit → Act → World → Prop} (hgd : o.guard = none) (x y : Operand) (t u : TypeId)
    (ho : o.op = .call { callee := .builtin .append, args := #[x, y], argTypes := #[t, u] })
    (base : Nat) (e : TypeId) (i : TypeInfo) (z : Value) (bytes : Nat) (ht : P.underlying t = some (.slice e)) (hu : P.underlying u = some .string) (hi : P.info? e = some i) (hz : i.zero = some z)
    (hsize : i.size = 1) (hby : i.bytes = bytes) (hzs : z.cells.size = 1)
    (v : Value) (n : Nat) (xs : List Value) (hx : a.eval x = v) (hown : w.ownsRow base e 1 v n xs) (s : ByteArray) (hy : a.eval y = .string s)
    (h63 : n + s.size ≤ maxLen) (hbytes : (n + s.size) * bytes ≤ 140737488355328) (hbase : base ≤ w.heap.size)
    (h : ∀ v' w', w'.ownsRow base e 1 v' (n + s.size) (xs ++ byc s) → w.grownBy w' v.ownBlock → wpList P ops Q rest (a.put o.dst v') w') : wpList P ops Q (o :: rest) a w :=
  wpList_plain hgd fun K hK => by
    obtain ⟨v', w', hr, h2, h3⟩ := run_append_own_str (P := P) (w := w) base t u o.type e i z bytes ht hu hi hz hsize hby hzs v n xs hown s h63 hbytes hbase
    unfold Oper.wp execOp
    simp only [ho, resolve, invoke, builtin, Sem.run_bind, Sem.run_pure, Result.andThen_ok, List.map_toArray, List.map_cons, List.map_nil, hx, hy, hr]
    exact hK _ _ (h v' w' h2 h3)
end
end Go.Proofs.YtpkhgdnkkdhlcaaGreatDoor

