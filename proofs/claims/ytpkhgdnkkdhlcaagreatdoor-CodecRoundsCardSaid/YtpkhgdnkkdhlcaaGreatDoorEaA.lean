/-
  Plain law and walks: operations on two values.
-/
import Derived.Test.YtpkhgdnkkdhlcaaGreatDoorRedX
import Derived.Test.YtpkhgdnkkdhlcaaGreatDoorBoxW
import Derived.Test.YtpkhgdnkkdhlcaaGreatDoorWords
import Derived.Deep.RegionHeld3
import Derived.Sort.CutIn
namespace Go.Proofs.YtpkhgdnkkdhlcaaGreatDoor
open Go.RowKit Ix Ar

noncomputable def cmpT (s t : ByteArray) : Int := cmpQ (textRat s.data.toList) (textRat t.data.toList)
set_option maxRecDepth 100000 in
set_option maxHeartbeats 3200000 in
theorem ptwo_any (s t : ByteArray) (z : Rat) (ok : Bool) (gf : FuncId) (caps : Array Value) (eg : ∀ args w, (callFunc gf args).run Tryz.prog w = .ok (.enter gf args) w) (w : World) (hs : s.size ≤ 4000000) (ht : t.size ≤ 4000000) (he : Env w) (her : EnvR w)
    (hz : numB s = true → numB t = true → ok = true → sz z ≤ 100000)
    (FO : numB s = true → numB t = true → ∀ W u v, Below w.heap.size w W → IsF W W.heap.size u (textRat s.data.toList) → IsF W W.heap.size v (textRat t.data.toList) → Calls Tryz.prog gf (#[u, v] ++ caps) W fun e W' => Below W.heap.size W W' ∧ ∃ r, e = .returned (.tuple #[r, .bool ok]) ∧ Got ok r W' z)
    (R : ByteArray) (hR : R = if (numB s && numB t) = true then (if ok = true then putT z else ⟨#[]⟩) else ⟨#[]⟩) :
    Calls Tryz.prog 76 #[.string s, .string t, .func (.func gf) #[] caps] w fun e w' => Below w.heap.size w w' ∧ e = .returned (.string R) := by
  obtain ⟨q1, h1⟩ : ∃ q, numB s = q := ⟨_, rfl⟩
  obtain ⟨q2, h2⟩ : ∃ q, numB t = q := ⟨_, rfl⟩
  have R1 := Lib.hid (fun W (hW : Below w.heap.size w W) => read_any s W hs (he.next hW) q1 (by rw [← h1]; exact numB_iff s))
  have R2 := Lib.hid (fun W (hW : Below w.heap.size w W) => read_any t W ht (he.next hW) q2 (by rw [← h2]; exact numB_iff t))
  have HER := Lib.hid (fun W (hW : Below w.heap.size w W) => her.next hW)
  rw [h1, h2] at hR
  rw [h1, h2] at hz FO
  have HFO := Lib.hid FO
  have HSZ := Lib.hid hz
  have HR := Lib.hid hR
  clear h1 h2 FO hz he her hR hs ht
  generalize textRat s.data.toList = x at *
  generalize textRat t.data.toList = y at *
  have B0 := BxW.nil w
  go_enter Tryz.func76, Tryz.ntmps76
  go_wp2_with fail
  refine (R1.out w (Below.refl _ _)).mono ?_
  rintro e w1 ⟨hb1, v1, rfl, hf1, hg1⟩
  obtain ⟨gb, gA, gn, gc, gA', gn', gc', rfl⟩ := hf1
  have B1 := (B0.next hb1).new 102 #[.bool gb, .slice gA gn gc, .slice gA' gn' gc']
  have hG1 := Lib.hid (fun h => (hg1 h).next (below_alloc w1 (.cells #[.bool gb, .slice gA gn gc, .slice gA' gn' gc'] 102)))
  clear hg1 B0 hb1 R1
  go_wp2_with fail
  generalize w1.alloc (.cells #[.bool gb, .slice gA gn gc, .slice gA' gn' gc'] 102) = w2 at *
  generalize w1.heap.size = b1 at *
  refine (R2.out w2 B1.below).mono ?_
  rintro e w3 ⟨hb3, v3, rfl, hf3, hg3⟩
  obtain ⟨xb, xA, xn, xc, xA', xn', xc', rfl⟩ := hf3
  have ba := below_alloc w3 (.cells #[.bool xb, .slice xA xn xc, .slice xA' xn' xc'] 102)
  have B3 := (B1.next hb3).new 102 #[.bool xb, .slice xA xn xc, .slice xA' xn' xc']
  have hG3 := Lib.hid (fun h => ((hG1.out h).next hb3).next ba)
  have hX3 := Lib.hid (fun h => (hg3 h).next ba)
  clear hg3 B1 hb3 R2 ba hG1
  have hBB := B3.below
  cases q1
  · have e0 := HR.out
    rw [if_neg (by simp)] at e0
    subst e0
    clear HR hG3 hX3 HFO HSZ HER B3
    go_wp2
    go_ret
    exact ⟨hBB, rfl⟩
  cases q2
  · have e0 := HR.out
    rw [if_neg (by simp)] at e0
    subst e0
    clear HR hG3 hX3 HFO HSZ HER B3
    go_wp2
    go_ret
    exact ⟨hBB, rfl⟩
  have e0 := HR.out
  rw [if_pos (by rfl)] at e0
  have FO := Lib.hid (HFO.out rfl rfl _ _ _ hBB (hG3.out rfl) (hX3.out rfl))
  obtain ⟨g0, g1, g2⟩ := bk3 B3.one
  obtain ⟨x0, x1, x2⟩ := bk3 B3.two
  clear HR HFO hG3 hX3
  go_wp2_with fail
  generalize w3.alloc (.cells #[.bool xb, .slice xA xn xc, .slice xA' xn' xc'] 102) = w4 at *
  refine FO.out.mono ?_
  rintro e w5 ⟨hb5, r, rfl, hf5, hg5⟩
  obtain ⟨yb, yA, yn, yc, yA', yn', yc', rfl⟩ := hf5
  have B5 := (B3.next hb5).new 102 #[.bool yb, .slice yA yn yc, .slice yA' yn' yc']
  have hG5 := Lib.hid (fun h => (hg5 h).next (below_alloc w5 (.cells #[.bool yb, .slice yA yn yc, .slice yA' yn' yc'] 102)))
  have hB5 := B5.below
  clear g0 g1 g2 x0 x1 x2 B3 hBB hb5 hg5 FO
  cases ok
  · rw [if_neg (by decide)] at e0
    subst e0
    clear hG5 HSZ HER B5
    go_wp2
    go_ret
    exact ⟨hB5, rfl⟩
  · rw [if_pos rfl] at e0
    subst e0
    have VV := Lib.hid (fval_any z _ _ (hG5.out rfl) (by have := HSZ.out (by trivial) (by trivial) (by trivial); omega) (HER.out _ hB5))
    obtain ⟨g0, g1, g2⟩ := bk3 B5.three
    clear hG5 HSZ HER
    go_wp2_with fail
    generalize w5.alloc (.cells #[.bool yb, .slice yA yn yc, .slice yA' yn' yc'] 102) = w6 at *
    refine VV.out.mono ?_
    rintro e w7 ⟨hb7, rfl⟩
    have hB7 := hB5.trans (hb7.mono hB5.size)
    clear g0 g1 g2 B5 hB5 hb7 VV
    go_wp2
    go_ret
    exact ⟨hB7, rfl⟩


set_option maxRecDepth 100000 in
set_option maxHeartbeats 1600000 in
theorem pcompare_any (s t : ByteArray) (w : World) (hs : s.size ≤ 4000000) (ht : t.size ≤ 4000000) (he : Env w) (q : Bool) (hq : (numB s && numB t) = q) :
    Calls Tryz.prog 75 #[.string s, .string t] w fun e w' => Below w.heap.size w w' ∧ ∃ c : Int, e = .returned (.tuple #[.int .i64 c, .bool q]) ∧ (q = true → c = cmpT s t) := by
  obtain ⟨q1, h1⟩ : ∃ q, numB s = q := ⟨_, rfl⟩
  obtain ⟨q2, h2⟩ : ∃ q, numB t = q := ⟨_, rfl⟩
  have R1 := Lib.hid (fun W (hW : Below w.heap.size w W) => read_any s W hs (he.next hW) q1 (by rw [← h1]; exact numB_iff s))
  have R2 := Lib.hid (fun W (hW : Below w.heap.size w W) => read_any t W ht (he.next hW) q2 (by rw [← h2]; exact numB_iff t))
  have HZ : Hid (q1 = true → q2 = true → sz (textRat s.data.toList) ≤ 200 ∧ sz (textRat t.data.toList) ≤ 200) := fun a b => ⟨num_sz (by rw [h1]; exact a), num_sz (by rw [h2]; exact b)⟩
  rw [h1, h2] at hq
  subst hq
  show Calls _ _ _ _ (fun e w' => Below w.heap.size w w' ∧ ∃ c : Int, e = .returned (.tuple #[.int .i64 c, .bool (q1 && q2)]) ∧ ((q1 && q2) = true → c = sgQ (textRat s.data.toList - textRat t.data.toList)))
  clear h1 h2 he hs ht
  generalize textRat s.data.toList = x at *
  generalize textRat t.data.toList = y at *
  have B0 := BxW.nil w
  go_enter Tryz.func75, Tryz.ntmps75
  go_wp2_with fail
  refine (R1.out w (Below.refl _ _)).mono ?_
  rintro e w1 ⟨hb1, v1, rfl, hf1, hg1⟩
  obtain ⟨gb, gA, gn, gc, gA', gn', gc', rfl⟩ := hf1
  have B1 := (B0.next hb1).new 102 #[.bool gb, .slice gA gn gc, .slice gA' gn' gc']
  have hG1 := Lib.hid (fun h => (hg1 h).next (below_alloc w1 (.cells #[.bool gb, .slice gA gn gc, .slice gA' gn' gc'] 102)))
  clear hg1 B0 hb1 R1
  go_wp2_with fail
  generalize w1.alloc (.cells #[.bool gb, .slice gA gn gc, .slice gA' gn' gc'] 102) = w2 at *
  generalize w1.heap.size = b1 at *
  refine (R2.out w2 B1.below).mono ?_
  rintro e w3 ⟨hb3, v3, rfl, hf3, hg3⟩
  obtain ⟨xb, xA, xn, xc, xA', xn', xc', rfl⟩ := hf3
  have ba := below_alloc w3 (.cells #[.bool xb, .slice xA xn xc, .slice xA' xn' xc'] 102)
  have B3 := (B1.next hb3).new 102 #[.bool xb, .slice xA xn xc, .slice xA' xn' xc']
  have hG3 := Lib.hid (fun h => ((hG1.out h).next hb3).next ba)
  have hX3 := Lib.hid (fun h => (hg3 h).next ba)
  clear hg3 B1 hb3 R2 ba hG1
  have hBB := B3.below
  cases q1
  · clear hG3 hX3 HZ B3
    go_wp2
    go_ret2
    exact ⟨hBB, _, rfl, fun h => (by cases h)⟩
  cases q2
  · clear hG3 hX3 HZ B3
    go_wp2
    go_ret2
    exact ⟨hBB, _, rfl, fun h => (by cases h)⟩
  obtain ⟨z1, z2⟩ := HZ.out rfl rfl
  have FO := Lib.hid (fcmp_any x y _ _ _ (hG3.out rfl) (hX3.out rfl) (by omega) (by omega))
  obtain ⟨g0, g1, g2⟩ := bk3 B3.one
  obtain ⟨x0, x1, x2⟩ := bk3 B3.two
  clear HZ hG3 hX3
  generalize hcc : sgQ (x - y) = cc at *
  have HCC := Lib.hid hcc
  clear hcc
  go_wp2_with fail
  generalize w3.alloc (.cells #[.bool xb, .slice xA xn xc, .slice xA' xn' xc'] 102) = w4 at *
  refine FO.out.mono ?_
  rintro e w5 ⟨hb5, rfl⟩
  have hB5 := (B3.next hb5).below
  clear g0 g1 g2 x0 x1 x2 B3 hb5 FO hBB
  go_wp2
  go_ret2
  exact ⟨hB5, _, rfl, fun _ => HCC.out.symm⟩
end Go.Proofs.YtpkhgdnkkdhlcaaGreatDoor

