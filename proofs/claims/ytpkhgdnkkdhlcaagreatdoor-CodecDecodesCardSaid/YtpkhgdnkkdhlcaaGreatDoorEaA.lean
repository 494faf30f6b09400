/-
  Plain law and walks: operations on two values.
-/
import Derived.Test.YtpkhgdnkkdhlcaaGreatDoorRedX
import Derived.Test.YtpkhgdnkkdhlcaaGreatDoorStpA
import Derived.Test.YtpkhgdnkkdhlcaaGreatDoorBoxW
namespace Go.Proofs.YtpkhgdnkkdhlcaaGreatDoor
open Go.RowKit Ix Ar

/-- Two numbers' texts, and what a sum, a difference or a product of them says. -/
noncomputable def binV (f : Rat → Rat → Rat) (s t : ByteArray) : ByteArray := if (numB s && numB t) = true then putT (f (textRat s.data.toList) (textRat t.data.toList)) else ⟨#[]⟩
noncomputable def divV (s t : ByteArray) : ByteArray := if (numB s && numB t) = true then (if textRat t.data.toList = 0 then ⟨#[]⟩ else putT (textRat s.data.toList / textRat t.data.toList)) else ⟨#[]⟩
def truT (b : Bool) : ByteArray := if b = true then ⟨#[49]⟩ else ⟨#[48]⟩
noncomputable def cmpT (s t : ByteArray) : Int := cmpQ (textRat s.data.toList) (textRat t.data.toList)
/-- What an operation on two values says. -/
noncomputable def opV (op : Int) (s t : ByteArray) : ByteArray :=
  if op = 1 then binV (fun p q => p + q) s t else if op = 2 then binV (fun p q => p - q) s t else if op = 3 then binV (fun p q => p * q) s t else if op = 4 then divV s t
  else if op = 10 then (if s = ⟨#[]⟩ then t else s)
  else if (numB s && numB t) = false then ⟨#[]⟩
  else if op = 7 then truT (decide (cmpT s t = 0)) else if op = 8 then truT (decide (cmpT s t < 0)) else if op = 9 then truT (decide (cmpT s t ≤ 0))
  else if op = 5 then (if cmpT s t < 0 then s else t) else (if cmpT s t < 0 then t else s)
theorem cmpQ_eq {p q : Rat} (h : cmpQ p q = 0) : p = q := by
  unfold cmpQ sgQ at h
  split at h
  · grind
  · split at h <;> omega
theorem cmpT_eq {s t : ByteArray} (h : (numB s && numB t) = true) (h0 : cmpT s t = 0) : s = t := by
  obtain ⟨h1, h2⟩ := Bool.and_eq_true_iff.1 h
  have := cmpQ_eq h0
  rw [← num_put h1, ← num_put h2, this]
theorem sgQ_zero {q : Rat} : sgQ q = 0 ↔ q = 0 := by
  unfold sgQ
  split
  · simp_all
  · split <;> simp_all

set_option maxRecDepth 100000 in
set_option maxHeartbeats 1600000 in
theorem rdivv_any (s t : ByteArray) (w : World) (hs : s.size ≤ 4000000) (ht : t.size ≤ 4000000) :
    Calls Tryz.prog 57 #[.string s, .string t] w fun e w' => Below w.heap.size w w' ∧ e = .returned (.string (divV s t)) := by
  obtain ⟨q, hq⟩ : ∃ q, (numB s && numB t) = q := ⟨_, rfl⟩
  have TW := rtwo_any s t w hs ht
  rw [hq] at TW
  have HR : Hid (divV s t = if q = true then (if textRat t.data.toList = 0 then ⟨#[]⟩ else putT (textRat s.data.toList / textRat t.data.toList)) else ⟨#[]⟩) := by show _ = _; unfold divV; rw [hq]
  have HQ := Lib.hid hq
  generalize divV s t = R at *
  clear hq
  go_enter Tryz.func57, Tryz.ntmps57
  go_wp2_with fail
  refine TW.mono ?_
  rintro e w2 ⟨hb2, gv, xv, rfl, ⟨⟨p0, hp0⟩, hg⟩, ⟨p1, hp1⟩, hx⟩
  obtain ⟨gb, gA, gn, gc, gA', gn', gc', rfl⟩ := hp0.form
  obtain ⟨xb, xA, xn, xc, xA', xn', xc', rfl⟩ := hp1.form
  have hA := (below_alloc w2 (.cells #[.bool gb, .slice gA gn gc, .slice gA' gn' gc'] 74)).alloc (by simp) (.cells #[.bool xb, .slice xA xn xc, .slice xA' xn' xc'] 74)
  have hB := hb2.trans (hA.mono hb2.size)
  have kg := (Bk.new w2 74 #[Value.bool gb, .slice gA gn gc, .slice gA' gn' gc']).alloc (.cells #[.bool xb, .slice xA xn xc, .slice xA' xn' xc'] 74)
  have kx := Bk.new2 w2 (.cells #[.bool gb, .slice gA gn gc, .slice gA' gn' gc'] 74) 74 #[Value.bool xb, .slice xA xn xc, .slice xA' xn' xc']
  cases q
  · have e0 := HR.out
    rw [if_neg (by decide)] at e0
    subst e0
    clear TW hp0 hp1 hg hx kg kx HQ hA HR
    go_wp2
    go_ret
    exact ⟨hB, rfl⟩
  have e0 := HR.out
  rw [if_pos rfl] at e0
  obtain ⟨h1, h2⟩ := Bool.and_eq_true_iff.1 HQ.out
  have ss := num_sz h1
  have st := num_sz h2
  have SG := Lib.hid (qsgn_any _ _ _ ((hx h2).next hA) (by omega))
  have HG := Lib.hid ((hg h1).next hA)
  have HX := Lib.hid ((hx h2).next hA)
  have hsz0 : (w2.alloc (.cells #[.bool gb, .slice gA gn gc, .slice gA' gn' gc'] 74)).heap.size = w2.heap.size + 1 := by simp
  obtain ⟨g0, g1, g2⟩ := bk3 kg
  obtain ⟨x0, x1, x2⟩ := bk3 kx
  clear TW hp0 hp1 hg hx hA HQ HR h1 h2 hsz0
  go_wp2_with fail
  generalize ((w2.alloc (.cells #[.bool gb, .slice gA gn gc, .slice gA' gn' gc'] 74)).alloc (.cells #[.bool xb, .slice xA xn xc, .slice xA' xn' xc'] 74)) = W2 at *
  generalize w2.heap.size = b2 at *
  refine SG.out.mono ?_
  rintro e w3 ⟨hb3, rfl⟩
  have hB3 := hB.trans (hb3.mono hB.size)
  by_cases hz : textRat t.data.toList = 0
  · have hsg : (sgQ (textRat t.data.toList) == 0) = true := by rw [beq_iff_eq]; exact sgQ_zero.2 hz
    rw [if_pos hz] at e0
    subst e0
    generalize sgQ (textRat t.data.toList) = sg at *
    clear g0 g1 g2 x0 x1 x2 kg kx SG HG HX hB
    go_wp2
    go_ret
    exact ⟨hB3, rfl⟩
  have hsg : (sgQ (textRat t.data.toList) == 0) = false := by rw [beq_eq_false_iff_ne]; exact fun h => hz (sgQ_zero.1 h)
  rw [if_neg hz] at e0
  subst e0
  have hsd := sz_div (textRat s.data.toList) (textRat t.data.toList) hz
  have CC := Lib.hid (qquot_any _ _ _ _ w3 (HG.out.next hb3) (HX.out.next hb3) (by omega) (by omega))
  have kg3 := kg.next' hb3
  have kx3 := kx.next' hb3
  clear g0 g1 g2 x0 x1 x2 kg kx SG HG HX hB hb3
  obtain ⟨g0, g1, g2⟩ := bk3 kg3
  obtain ⟨x0, x1, x2⟩ := bk3 kx3
  generalize sgQ (textRat t.data.toList) = sg at *
  go_wp2_with fail
  refine CC.out.mono ?_
  rintro e w4 ⟨hb4, v, rfl, hv⟩
  have hB4 := hB3.trans (hb4.mono hB3.size)
  clear g0 g1 g2 x0 x1 x2 hb4 hB3 kg3 kx3
  go_wp2_with fail
  refine (rput_any _ _ w4 hv (by omega)).mono ?_
  rintro e w5 ⟨hb5, rfl⟩
  go_wp2
  go_ret
  exact ⟨hB4.trans (hb5.mono hB4.size), rfl⟩

set_option maxRecDepth 100000 in
set_option maxHeartbeats 3200000 in
theorem ptwo_any (s t : ByteArray) (z : Rat) (ok : Bool) (gf : FuncId) (caps : Array Value) (eg : ∀ args w, (callFunc gf args).run Tryz.prog w = .ok (.enter gf args) w) (w : World) (hs : s.size ≤ 4000000) (ht : t.size ≤ 4000000) (he : Env w) (her : EnvR w)
    (hz : numB s = true → numB t = true → ok = true → sz z ≤ 100000)
    (FO : numB s = true → numB t = true → ∀ W u v, Below w.heap.size w W → IsF W W.heap.size u (textRat s.data.toList) → IsF W W.heap.size v (textRat t.data.toList) → Calls Tryz.prog gf (#[u, v] ++ caps) W fun e W' => Below W.heap.size W W' ∧ ∃ r, e = .returned (.tuple #[r, .bool ok]) ∧ Got ok r W' z)
    (R : ByteArray) (hR : R = if (numB s && numB t) = true then (if ok = true then putT z else ⟨#[]⟩) else ⟨#[]⟩) :
    Calls Tryz.prog 76 #[.string s, .string t, .func (.func gf) #[] caps] w fun e w' => Below w.heap.size w w' ∧ e = .returned (.string R) := by
  obtain ⟨q1, h1⟩ : ∃ q, numB s = q := ⟨_, rfl⟩
  obtain ⟨q2, h2⟩ : ∃ q, numB t = q := ⟨_, rfl⟩
  have R1 := Lib.hid (fun W (hW : Below w.heap.size w W) => read_any s W hs (he.next hW) q1 (by rw [← h1]; exact numB_iff s))
  have R2 := Lib.hid (fun W (hW : Below w.heap.size w W) => read_any t W ht (he.next hW) q2 (by rw [← h2]; exact numB_iff t))
  have HER := Lib.hid (fun W (hW : Below w.heap.size w W) => her.next hW)
  rw [h1, h2] at hR
  rw [h1, h2] at hz FO
  have HFO := Lib.hid FO
  have HSZ := Lib.hid hz
  have HR := Lib.hid hR
  clear h1 h2 FO hz he her hR hs ht
  generalize textRat s.data.toList = x at *
  generalize textRat t.data.toList = y at *
  have B0 := BxW.nil w
  go_enter Tryz.func76, Tryz.ntmps76
  go_wp2_with fail
  refine (R1.out w (Below.refl _ _)).mono ?_
  rintro e w1 ⟨hb1, v1, rfl, hf1, hg1⟩
  obtain ⟨gb, gA, gn, gc, gA', gn', gc', rfl⟩ := hf1
  have B1 := (B0.next hb1).new 102 #[.bool gb, .slice gA gn gc, .slice gA' gn' gc']
  have hG1 := Lib.hid (fun h => (hg1 h).next (below_alloc w1 (.cells #[.bool gb, .slice gA gn gc, .slice gA' gn' gc'] 102)))
  clear hg1 B0 hb1 R1
  go_wp2_with fail
  generalize w1.alloc (.cells #[.bool gb, .slice gA gn gc, .slice gA' gn' gc'] 102) = w2 at *
  generalize w1.heap.size = b1 at *
  refine (R2.out w2 B1.below).mono ?_
  rintro e w3 ⟨hb3, v3, rfl, hf3, hg3⟩
  obtain ⟨xb, xA, xn, xc, xA', xn', xc', rfl⟩ := hf3
  have ba := below_alloc w3 (.cells #[.bool xb, .slice xA xn xc, .slice xA' xn' xc'] 102)
  have B3 := (B1.next hb3).new 102 #[.bool xb, .slice xA xn xc, .slice xA' xn' xc']
  have hG3 := Lib.hid (fun h => ((hG1.out h).next hb3).next ba)
  have hX3 := Lib.hid (fun h => (hg3 h).next ba)
  clear hg3 B1 hb3 R2 ba hG1
  have hBB := B3.below
  cases q1
  · have e0 := HR.out
    rw [if_neg (by simp)] at e0
    subst e0
    clear HR hG3 hX3 HFO HSZ HER B3
    go_wp2
    go_ret
    exact ⟨hBB, rfl⟩
  cases q2
  · have e0 := HR.out
    rw [if_neg (by simp)] at e0
    subst e0
    clear HR hG3 hX3 HFO HSZ HER B3
    go_wp2
    go_ret
    exact ⟨hBB, rfl⟩
  have e0 := HR.out
  rw [if_pos (by rfl)] at e0
  have FO := Lib.hid (HFO.out rfl rfl _ _ _ hBB (hG3.out rfl) (hX3.out rfl))
  obtain ⟨g0, g1, g2⟩ := bk3 B3.one
  obtain ⟨x0, x1, x2⟩ := bk3 B3.two
  clear HR HFO hG3 hX3
  go_wp2_with fail
  generalize w3.alloc (.cells #[.bool xb, .slice xA xn xc, .slice xA' xn' xc'] 102) = w4 at *
  refine FO.out.mono ?_
  rintro e w5 ⟨hb5, r, rfl, hf5, hg5⟩
  obtain ⟨yb, yA, yn, yc, yA', yn', yc', rfl⟩ := hf5
  have B5 := (B3.next hb5).new 102 #[.bool yb, .slice yA yn yc, .slice yA' yn' yc']
  have hG5 := Lib.hid (fun h => (hg5 h).next (below_alloc w5 (.cells #[.bool yb, .slice yA yn yc, .slice yA' yn' yc'] 102)))
  have hB5 := B5.below
  clear g0 g1 g2 x0 x1 x2 B3 hBB hb5 hg5 FO
  cases ok
  · rw [if_neg (by decide)] at e0
    subst e0
    clear hG5 HSZ HER B5
    go_wp2
    go_ret
    exact ⟨hB5, rfl⟩
  · rw [if_pos rfl] at e0
    subst e0
    have VV := Lib.hid (fval_any z _ _ (hG5.out rfl) (by have := HSZ.out (by trivial) (by trivial) (by trivial); omega) (HER.out _ hB5))
    obtain ⟨g0, g1, g2⟩ := bk3 B5.three
    clear hG5 HSZ HER
    go_wp2_with fail
    generalize w5.alloc (.cells #[.bool yb, .slice yA yn yc, .slice yA' yn' yc'] 102) = w6 at *
    refine VV.out.mono ?_
    rintro e w7 ⟨hb7, rfl⟩
    have hB7 := hB5.trans (hb7.mono hB5.size)
    clear g0 g1 g2 B5 hB5 hb7 VV
    go_wp2
    go_ret
    exact ⟨hB7, rfl⟩


set_option maxRecDepth 100000 in
set_option maxHeartbeats 3200000 in
theorem pdiv1_any (p q : Rat) (u v : Value) (w : World) (hu : IsF w w.heap.size u p) (hv : IsF w w.heap.size v q) (hp : sz p ≤ 200) (hq : sz q ≤ 200) :
    Calls Tryz.prog 103 #[u, v] w fun e w' => Below w.heap.size w w' ∧ ∃ r, e = .returned (.tuple #[r, .bool (decide (q ≠ 0))]) ∧ Got (decide (q ≠ 0)) r w' (p / q) := by
  obtain ⟨s1, A1, l1, c1, A2, l2, c2, rfl⟩ := hu.form
  obtain ⟨s2, A3, l3, c3, A4, l4, c4, rfl⟩ := hv.form
  have B0 := BxW.start3 w 102 102 102 #[.bool s1, .slice A1 l1 c1, .slice A2 l2 c2] #[.bool s2, .slice A3 l3 c3, .slice A4 l4 c4] #[.bool false, .slice none 0 0, .slice none 0 0]
  have SG := Lib.hid (fsign_any q _ _ (hv.next B0.below))
  have FD := Lib.hid (fun (h0 : q ≠ 0) W (hW : Below w.heap.size w W) => fdiv_any p q _ _ W h0 (hu.next hW) (hv.next hW) (by omega) (by omega))
  obtain ⟨x0, x1, x2⟩ := bk3 B0.two
  clear hu hv hp hq
  by_cases h0 : q = 0
  · have hsg : (sgQ q == 0) = true := by rw [beq_iff_eq]; exact sgQ_zero.2 h0
    rw [decide_eq_false (fun h => h h0)]
    clear FD h0
    generalize p / q = z at *
    go_enter Tryz.func103, Tryz.ntmps103
    go_wp2_with fail
    generalize (((w.alloc (.cells #[.bool s1, .slice A1 l1 c1, .slice A2 l2 c2] 102)).alloc (.cells #[.bool s2, .slice A3 l3 c3, .slice A4 l4 c4] 102)).alloc (.cells #[.bool false, .slice none 0 0, .slice none 0 0] 102)) = W0 at *
    refine SG.out.mono ?_
    rintro e w1 ⟨hb1, rfl⟩
    have B1 := B0.next hb1
    have k3 := B1.three
    have hB := set3_below B1.below (b := w.heap.size + 2) (x := .bool s1) (y := .slice A1 l1 c1) (z := .slice A2 l2 c2) (by omega)
    have f0 := k3.frozen 0
    have f1 := k3.frozen 1
    have f2 := k3.frozen 2
    obtain ⟨e0, e1, e2⟩ := bk3 k3
    obtain ⟨g0, g1, g2⟩ := bk3 B1.one
    generalize sgQ q = sg at *
    clear x0 x1 x2 B0 hb1 SG k3
    go_wp2
    refine bodyPost_ret (v := .tuple #[.agg #[.bool s1, .slice A1 l1 c1, .slice A2 l2 c2], .bool false]) (by simp [results, Tryz.results103, go_sem, e0, e1, e2]) rfl ?_
    exact ⟨hB, _, rfl, ⟨_, _, _, _, _, _, _, rfl⟩, fun h => (by cases h)⟩
  have hsg : (sgQ q == 0) = false := by rw [beq_eq_false_iff_ne]; exact fun h => h0 (sgQ_zero.1 h)
  rw [decide_eq_true h0]
  have FDD := Lib.hid (FD.out h0)
  clear FD h0
  generalize p / q = z at *
  go_enter Tryz.func103, Tryz.ntmps103
  go_wp2_with fail
  generalize (((w.alloc (.cells #[.bool s1, .slice A1 l1 c1, .slice A2 l2 c2] 102)).alloc (.cells #[.bool s2, .slice A3 l3 c3, .slice A4 l4 c4] 102)).alloc (.cells #[.bool false, .slice none 0 0, .slice none 0 0] 102)) = W0 at *
  refine SG.out.mono ?_
  rintro e w1 ⟨hb1, rfl⟩
  have B1 := B0.next hb1
  obtain ⟨g0, g1, g2⟩ := bk3 B1.one
  clear x0 x1 x2 B0 hb1 SG
  obtain ⟨x0, x1, x2⟩ := bk3 B1.two
  generalize sgQ q = sg at *
  go_wp2_with fail
  refine (FDD.out w1 B1.below).mono ?_
  rintro e w2 ⟨hb2, r, rfl, hr⟩
  obtain ⟨s5, A5, l5, c5, A6, l6, c6, rfl⟩ := hr.form
  have B2 := B1.next hb2
  have k3 := B2.three
  have hB := set3_below B2.below (b := w.heap.size + 2) (x := .bool s5) (y := .slice A5 l5 c5) (z := .slice A6 l6 c6) (by omega)
  have hr3 := (hr.set3 k3 (.bool s5) (.slice A5 l5 c5) (.slice A6 l6 c6)).more (Nat.le_of_eq (set3_size w2 (w.heap.size + 2) (.bool s5) (.slice A5 l5 c5) (.slice A6 l6 c6)).symm)
  have f0 := k3.frozen 0
  have f1 := k3.frozen 1
  have f2 := k3.frozen 2
  obtain ⟨e0, e1, e2⟩ := bk3 k3
  clear g0 g1 g2 x0 x1 x2 B1 hb2 FDD k3 hr
  go_wp2
  refine bodyPost_ret (v := .tuple #[.agg #[.bool s5, .slice A5 l5 c5, .slice A6 l6 c6], .bool true]) (by simp [results, Tryz.results103, go_sem, e0, e1, e2]) rfl ?_
  exact ⟨hB, _, rfl, ⟨_, _, _, _, _, _, _, rfl⟩, fun _ => hr3⟩

set_option maxRecDepth 100000 in
set_option maxHeartbeats 1600000 in
theorem pdivv_any (s t : ByteArray) (w : World) (hs : s.size ≤ 4000000) (ht : t.size ≤ 4000000) (he : Env w) (her : EnvR w) :
    Calls Tryz.prog 55 #[.string s, .string t] w fun e w' => Below w.heap.size w w' ∧ e = .returned (.string (divV s t)) := by
  have HR : divV s t = if (numB s && numB t) = true then (if decide (textRat t.data.toList ≠ 0) = true then putT (textRat s.data.toList / textRat t.data.toList) else ⟨#[]⟩) else ⟨#[]⟩ := by
    unfold divV
    by_cases h : textRat t.data.toList = 0 <;> simp [h]
  have TW := Lib.hid (ptwo_any s t (textRat s.data.toList / textRat t.data.toList) (decide (textRat t.data.toList ≠ 0)) 103 #[] (enters_of Tryz.func103 (by kernel_rfl) rfl) w hs ht he her
    (fun h1 h2 h0 => by have := sz_div (textRat s.data.toList) (textRat t.data.toList) (of_decide_eq_true h0); have := num_sz h1; have := num_sz h2; omega)
    (fun h1 h2 W' u v hW' hu hv => pdiv1_any _ _ u v W' hu hv (num_sz h1) (num_sz h2)) _ HR)
  clear HR he her hs ht
  generalize divV s t = R at *
  go_enter Tryz.func55, Tryz.ntmps55
  go_wp2_with fail
  refine TW.out.mono ?_
  rintro e w2 ⟨hb2, rfl⟩
  go_wp2
  go_ret
  exact ⟨hb2, rfl⟩
set_option maxRecDepth 100000 in
set_option maxHeartbeats 1600000 in
theorem pcompare_any (s t : ByteArray) (w : World) (hs : s.size ≤ 4000000) (ht : t.size ≤ 4000000) (he : Env w) (q : Bool) (hq : (numB s && numB t) = q) :
    Calls Tryz.prog 75 #[.string s, .string t] w fun e w' => Below w.heap.size w w' ∧ ∃ c : Int, e = .returned (.tuple #[.int .i64 c, .bool q]) ∧ (q = true → c = cmpT s t) := by
  obtain ⟨q1, h1⟩ : ∃ q, numB s = q := ⟨_, rfl⟩
  obtain ⟨q2, h2⟩ : ∃ q, numB t = q := ⟨_, rfl⟩
  have R1 := Lib.hid (fun W (hW : Below w.heap.size w W) => read_any s W hs (he.next hW) q1 (by rw [← h1]; exact numB_iff s))
  have R2 := Lib.hid (fun W (hW : Below w.heap.size w W) => read_any t W ht (he.next hW) q2 (by rw [← h2]; exact numB_iff t))
  have HZ : Hid (q1 = true → q2 = true → sz (textRat s.data.toList) ≤ 200 ∧ sz (textRat t.data.toList) ≤ 200) := fun a b => ⟨num_sz (by rw [h1]; exact a), num_sz (by rw [h2]; exact b)⟩
  rw [h1, h2] at hq
  subst hq
  show Calls _ _ _ _ (fun e w' => Below w.heap.size w w' ∧ ∃ c : Int, e = .returned (.tuple #[.int .i64 c, .bool (q1 && q2)]) ∧ ((q1 && q2) = true → c = sgQ (textRat s.data.toList - textRat t.data.toList)))
  clear h1 h2 he hs ht
  generalize textRat s.data.toList = x at *
  generalize textRat t.data.toList = y at *
  have B0 := BxW.nil w
  go_enter Tryz.func75, Tryz.ntmps75
  go_wp2_with fail
  refine (R1.out w (Below.refl _ _)).mono ?_
  rintro e w1 ⟨hb1, v1, rfl, hf1, hg1⟩
  obtain ⟨gb, gA, gn, gc, gA', gn', gc', rfl⟩ := hf1
  have B1 := (B0.next hb1).new 102 #[.bool gb, .slice gA gn gc, .slice gA' gn' gc']
  have hG1 := Lib.hid (fun h => (hg1 h).next (below_alloc w1 (.cells #[.bool gb, .slice gA gn gc, .slice gA' gn' gc'] 102)))
  clear hg1 B0 hb1 R1
  go_wp2_with fail
  generalize w1.alloc (.cells #[.bool gb, .slice gA gn gc, .slice gA' gn' gc'] 102) = w2 at *
  generalize w1.heap.size = b1 at *
  refine (R2.out w2 B1.below).mono ?_
  rintro e w3 ⟨hb3, v3, rfl, hf3, hg3⟩
  obtain ⟨xb, xA, xn, xc, xA', xn', xc', rfl⟩ := hf3
  have ba := below_alloc w3 (.cells #[.bool xb, .slice xA xn xc, .slice xA' xn' xc'] 102)
  have B3 := (B1.next hb3).new 102 #[.bool xb, .slice xA xn xc, .slice xA' xn' xc']
  have hG3 := Lib.hid (fun h => ((hG1.out h).next hb3).next ba)
  have hX3 := Lib.hid (fun h => (hg3 h).next ba)
  clear hg3 B1 hb3 R2 ba hG1
  have hBB := B3.below
  cases q1
  · clear hG3 hX3 HZ B3
    go_wp2
    go_ret2
    exact ⟨hBB, _, rfl, fun h => (by cases h)⟩
  cases q2
  · clear hG3 hX3 HZ B3
    go_wp2
    go_ret2
    exact ⟨hBB, _, rfl, fun h => (by cases h)⟩
  obtain ⟨z1, z2⟩ := HZ.out rfl rfl
  have FO := Lib.hid (fcmp_any x y _ _ _ (hG3.out rfl) (hX3.out rfl) (by omega) (by omega))
  obtain ⟨g0, g1, g2⟩ := bk3 B3.one
  obtain ⟨x0, x1, x2⟩ := bk3 B3.two
  clear HZ hG3 hX3
  generalize hcc : sgQ (x - y) = cc at *
  have HCC := Lib.hid hcc
  clear hcc
  go_wp2_with fail
  generalize w3.alloc (.cells #[.bool xb, .slice xA xn xc, .slice xA' xn' xc'] 102) = w4 at *
  refine FO.out.mono ?_
  rintro e w5 ⟨hb5, rfl⟩
  have hB5 := (B3.next hb5).below
  clear g0 g1 g2 x0 x1 x2 B3 hb5 FO hBB
  go_wp2
  go_ret2
  exact ⟨hB5, _, rfl, fun _ => HCC.out.symm⟩
end Go.Proofs.YtpkhgdnkkdhlcaaGreatDoor

