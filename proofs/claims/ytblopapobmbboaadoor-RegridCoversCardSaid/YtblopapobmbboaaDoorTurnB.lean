/-
  Words: an append at an operation of a region that draws its order; a number's text is read again. The walk of the law RegridTurns.
-/
import Derived.Test.YtblopapobmbboaaDoorTurnA
import Derived.Test.YtblopapobmbboaaDoorQqF
import Derived.Test.YtblopapobmbboaaDoorLawA
import Derived.Test.YtblopapobmbboaaDoorHeldM
namespace Go.Proofs.YtblopapobmbboaaDoor
open Go.RowKit Ar

theorem step_append_own {P : Program} {w : World} {o : Oper} {a : Act} {K : Act → World → Prop} {Q : Exit → Act → World → Prop} (s x : Operand) (t : TypeId)
    (ho : o.op = .call { callee := .builtin .append, args := #[s, x], argTypes := #[t, t] })
    (base : Nat) (e : TypeId) (i : TypeInfo) (z : Value) (size bytes : Nat) (ht : P.underlying t = some (.slice e)) (hi : P.info? e = some i) (hz : i.zero = some z)
    (hsize : i.size = size) (hby : i.bytes = bytes) (hzs : z.cells.size = size) (hsz : 0 < size)
    (v : Value) (n : Nat) (xs : List Value) (hs : a.eval s = v) (hown : w.ownsRow base e size v n xs)
    (ad : Addr) (m c : Nat) (news : List Value) (hx : a.eval x = .slice (some ad) m c) (hl : news.length = m * size) (hnews : ∀ j u, news[j]? = some u → w.cell? (ad.add j) = some u) (h1 : ∀ u ∈ news, u.oneCell' = true)
    (h63 : n + m ≤ maxLen) (hbytes : (n + m) * bytes ≤ 140737488355328) (hbase : base ≤ w.heap.size)
    (h : ∀ v' w', w'.ownsRow base e size v' (n + m) (xs ++ news) → w.grownBy w' v.ownBlock → K (a.put o.dst v') w') :
    Oper.wp P o a w K Q := by
  obtain ⟨v', w', hr, h2, h3, _, _⟩ := run_append_own_at (P := P) w base t o.type e i z size bytes ht hi hz hsize hby hzs hsz v n xs hown ad m c news hl hnews h1 h63 hbytes hbase
  unfold Oper.wp execOp
  simp only [ho, resolve, invoke, builtin, Sem.run_bind, Sem.run_pure, Result.andThen_ok, List.map_toArray, List.map_cons, List.map_nil, hs, hx, hr]
  exact h v' w' h2 h3

/-- A number's text is read again. -/
theorem qlong_text (q : Rat) (w : World) (hq : sz q ≤ 27000000001) :
    Calls Tryd.prog 11 #[.string ⟨(ratText q).toArray⟩] w fun e w' => Below w.heap.size w w' ∧ ∃ v, e = .returned (.tuple #[v, .bool true]) ∧ IsQ w' w'.heap.size v q := by
  have hl := ratText_len q
  refine (qlong_any ⟨(ratText q).toArray⟩ w (by rw [← size_list']; show (ratText q).length ≤ _; omega)).mono ?_
  rintro e w' ⟨hb, v, z, he, hz, p, hp, hpz⟩
  have ht := isText_ratText q
  have hzt : z = true := hz.2 ht.1
  have hpq := hpz hzt
  rw [show textRat (⟨(ratText q).toArray⟩ : ByteArray).data.toList = q from ht.2] at hpq
  subst hzt
  subst hpq
  exact ⟨hb, v, he, hp⟩

theorem prow_one (l : List Pl) : ∀ u ∈ prow l, u.oneCell' = true := fun u hu => by obtain ⟨n, rfl⟩ := prow_int hu; rfl
theorem prow_drop (l : List Pl) (n : Nat) : prow (l.drop n) = (prow l).drop (2 * n) := by
  have h : prow l = prow (l.take n) ++ prow (l.drop n) := by rw [← prow_app, List.take_append_drop]
  rcases Nat.lt_or_ge n l.length with h1 | h1
  · rw [h, List.drop_left' (by rw [prow_len, List.length_take]; omega)]
  · rw [List.drop_of_length_le h1, List.drop_of_length_le (by rw [prow_len]; omega)]; rfl
theorem prow_take (l : List Pl) (n : Nat) : prow (l.take n) = (prow l).take (2 * n) := by
  have h : prow l = prow (l.take n) ++ prow (l.drop n) := by rw [← prow_app, List.take_append_drop]
  rcases Nat.lt_or_ge n l.length with h1 | h1
  · rw [h, List.take_left' (by rw [prow_len, List.length_take]; omega)]
  · rw [List.take_of_length_le h1, List.take_of_length_le (by rw [prow_len]; omega)]
def zpl : Value := .agg #[.int .i64 0, .int .i64 0]
/-- The two cells in blocks of the call's own. -/
structure Tw (w : World) (ua ub : Value) (ma mb : Bool) (W : World) : Prop where
  below : Below w.heap.size w W
  ka : Bk W w.heap.size 24 #[ua, .bool ma]
  kb : Bk W (w.heap.size + 1) 24 #[ub, .bool mb]
theorem Tw.next {w W W' : World} {ua ub : Value} {ma mb : Bool} (h : Tw w ua ub ma mb W) (hb : Below W.heap.size W W') : Tw w ua ub ma mb W' :=
  ⟨h.below.trans (hb.mono h.below.size), h.ka.next' hb, h.kb.next' hb⟩
theorem Tw.start (w : World) (ua ub : Value) (ma mb : Bool) : Tw w ua ub ma mb ((w.alloc (.cells #[ua, .bool ma] 24)).alloc (.cells #[ub, .bool mb] 24)) :=
  ⟨(below_alloc w _).alloc (by simp) _, (Bk.new _ _ _).alloc _, Bk.two _ _ _ _⟩
theorem Tw.put {w W : World} {ua ub : Value} {ma mb : Bool} (h : Tw w ua ub ma mb W) {p : Addr} (hp : w.heap.size + 1 < p.block) (x : Value) : Tw w ua ub ma mb (W.setCell p x) :=
  ⟨h.below.setCell (by omega) x, h.ka.far (by omega) x, h.kb.far (by omega) x⟩
theorem Tw.drew {w W : World} {ua ub : Value} {ma mb : Bool} (h : Tw w ua ub ma mb W) : Tw w ua ub ma mb W.drew := ⟨h.below.drew, h.ka.drew, h.kb.drew⟩
theorem Tw.grown {w W W' : World} {ua ub : Value} {ma mb : Bool} (h : Tw w ua ub ma mb W) {r : Option Nat} (hg : W.grownBy W' r) (hr : ∀ g, r = some g → w.heap.size + 1 < g) : Tw w ua ub ma mb W' :=
  ⟨h.below.grown hg h.below.size (fun k hk => by have := hr k hk; omega), h.ka.grown hg (fun e => by have := hr _ e.symm; omega), h.kb.grown hg (fun e => by have := hr _ e.symm; omega)⟩
theorem IsC.rd {w : World} {B : Nat} {A : Option Addr} {k c : Nat} {m m' : Bool} {l : List Pl} (h : IsC w B (.agg #[.slice A k c, .bool m]) l m') : Rd w B A (prow l) := by
  obtain ⟨A0, c0, e, _, _, _, hr⟩ := h
  simp at e
  obtain ⟨⟨rfl, _⟩, _⟩ := e
  exact hr
theorem cmpQ_le {p q : Rat} (h : p ≤ q) : cmpQ p q ≤ 0 := by
  unfold cmpQ
  rcases tri3 (p - q) with h1 | h1 | h1
  · exact absurd h1 (by grind)
  · rw [h1, sgQ_zero]; omega
  · rw [sgQ_neg h1]; omega
theorem Tw.cells {w W : World} {ua ub : Value} {ma mb : Bool} (h : Tw w ua ub ma mb W) :
    (W.cell? ⟨w.heap.size, 0, none⟩ = some ua ∧ W.cell? ⟨w.heap.size, 1, none⟩ = some (.bool ma)) ∧ (W.cell? ⟨w.heap.size + 1, 0, none⟩ = some ub ∧ W.cell? ⟨w.heap.size + 1, 1, none⟩ = some (.bool mb)) := ⟨bk2 h.ka, bk2 h.kb⟩

set_option maxRecDepth 100000 in
set_option maxHeartbeats 6400000 in
theorem turns_walk (la lb : List Pl) (ma mb : Bool) (va vb : Value) (kk : Nat) (hkk : kk ≤ 255) (w : World) (ha : IsC w w.heap.size va la ma) (hb : IsC w w.heap.size vb lb mb) (he : EnvR w) :
    Calls Tryd.prog 3 #[va, vb, .int .u8 kk] w fun e w' => Below w.heap.size w w' ∧ e = .returned (.bool true) := by
  obtain ⟨A, ca, rfl, hca, hcma, _, _⟩ := id ha
  obtain ⟨A', cb, rfl, hcb, hcmb, _, _⟩ := id hb
  obtain ⟨z, hz⟩ : ∃ z : Bool, z = true ↔ (2 < [(la, ma), (lb, mb)].length ∨ ∃ x ∈ [(la, ma), (lb, mb)], 10 < x.1.length) := bool_of _
  have HZ := Lib.hid hz
  have hla : la.length ≤ maxLen := Nat.le_trans hca hcma
  have hlb : lb.length ≤ maxLen := Nat.le_trans hcb hcmb
  clear hz
  go_enter Tryd.func3, Tryd.ntmps3
  go_wp2_with fail
  have m0 := Tw.start w (.slice A la.length ca) (.slice A' lb.length cb) ma mb
  have kk0 := Bk.new ((w.alloc (.cells #[.slice A la.length ca, .bool ma] 24)).alloc (.cells #[.slice A' lb.length cb, .bool mb] 24)) 24 #[.slice A la.length ca, .bool ma, .slice A' lb.length cb, .bool mb]
  have m1 := m0.next (below_alloc _ (.cells #[.slice A la.length ca, .bool ma, .slice A' lb.length cb, .bool mb] 24))
  have hs4 : ((w.alloc (.cells #[.slice A la.length ca, .bool ma] 24)).alloc (.cells #[.slice A' lb.length cb, .bool mb] 24)).heap.size = w.heap.size + 1 + 1 := by simp
  rw [hs4] at kk0
  generalize (((w.alloc (.cells #[.slice A la.length ca, .bool ma] 24)).alloc (.cells #[.slice A' lb.length cb, .bool mb] 24)).alloc (.cells #[.slice A la.length ca, .bool ma, .slice A' lb.length cb, .bool mb] 24)) = w0 at *
  have ha0 := (ha.below m1.below).more m1.below.size
  have hb0 := (hb.below m1.below).more m1.below.size
  have hcs := two_cells ha0 hb0 kk0
  have MN := Many_any _ 2 _ w0 hcs (by omega) (by unfold maxLen; simp) z HZ.out (by intro x hx; simp at hx; rcases hx with rfl | rfl <;> assumption)
  refine MN.mono ?_
  rintro e w1 ⟨hb1, rfl⟩
  have m2 := m1.next hb1
  have he2 := he.next m2.below
  have ha2 := ha0.next hb1
  have hb2 := hb0.next hb1
  clear m0 m1 kk0 MN hcs ha0 hb0 hs4 hb1 HZ
  obtain ⟨⟨x0, x1⟩, ⟨y0, y1⟩⟩ := m2.cells
  cases z
  rotate_left
  · go_wp2_with fail
    refine (sane_any _ he2).mono ?_
    rintro e w2 ⟨hb3, rfl⟩
    have hB := m2.below.trans (hb3.mono m2.below.size)
    clear m2 ha2 hb2 he2 hb3
    go_wp2
    go_ret
    exact ⟨hB, rfl⟩
  obtain ⟨ok, hok⟩ : ∃ ok : Bool, ok = true ↔ validC la ∧ validC lb := bool_of _
  have C1 := Common_any la lb ma mb (.agg #[.slice A la.length ca, .bool ma]) (.agg #[.slice A' lb.length cb, .bool mb]) w1 ha2 hb2 he2 ok hok
  have HOK := Lib.hid hok
  clear hok
  cases ok
  · simp only [Bool.false_eq_true, if_false] at C1
    have et : (⟨([] : List UInt8).toArray⟩ : ByteArray) = ⟨#[]⟩ := rfl
    rw [et] at C1
    clear et
    go_wp2_with fail
    refine C1.mono ?_
    rintro e w2 ⟨hb3, rfl⟩
    have he3 := he2.next hb3
    have hB3 := m2.below.trans (hb3.mono m2.below.size)
    clear C1 m2 ha2 hb2 he2 hb3
    go_wp2_with fail
    refine (sane_any _ he3).mono ?_
    rintro e w3 ⟨hb4, rfl⟩
    go_wp2
    go_ret
    exact ⟨hB3.trans (hb4.mono hB3.size), rfl⟩
  obtain ⟨hva, hvb⟩ := HOK.out.1 rfl
  simp only [if_true] at C1
  have hl3 := hva.1
  have hl8 := hva.2.1
  have HVA := Lib.hid hva
  have HVB := Lib.hid hvb
  clear hva hvb HOK
  have hz0 : ((la.length : Int) == 0) = false := by rw [beq_eq_false_iff_ne]; omega
  obtain ⟨n, hn⟩ : ∃ n, n = kk % la.length := ⟨_, rfl⟩
  have hnl : n < la.length := by rw [hn]; exact Nat.mod_lt _ (by omega)
  have hnn : (kk : Int) % (la.length : Int) = (n : Int) := by rw [hn, Int.natCast_emod]
  clear hn
  go_wp2_with fail
  refine C1.mono ?_
  rintro e w2 ⟨hb3, rfl⟩
  have m3 := m2.next hb3
  have he3 := he2.next hb3
  have ha3 := ha2.next hb3
  have hb3' := hb2.next hb3
  clear C1 m2 ha2 hb2 he2 hb3 x0 x1 y0 y1
  obtain ⟨⟨x0, x1⟩, ⟨y0, y1⟩⟩ := m3.cells
  have lt1 := m3.ka.lt
  have lt2 := m3.kb.lt
  obtain ⟨ad, hadA, hrda⟩ : ∃ ad, A = some ad ∧ Rd w2 w2.heap.size (some ad) (prow la) := by
    obtain ⟨A9, c9, e9, _, _, _, hr9⟩ := ha3
    simp at e9
    obtain ⟨rfl, rfl⟩ := e9
    obtain ⟨ad, rfl, _, _⟩ := hr9 (by intro e; have := prow_len la; rw [e] at this; simp at this; omega)
    exact ⟨ad, rfl, hr9⟩
  subst hadA
  go_wp2_with fail
  rw [hnn]
  clear hnn
  obtain ⟨bc, hbc⟩ : ∃ b, b = w2.heap.size := ⟨_, rfl⟩
  have kc := Bk.new w2 24 #[.slice none 0 0, .bool (!ma)]
  have hbA := below_alloc w2 (.cells #[.slice none 0 0, .bool (!ma)] 24)
  have m4 := m3.next hbA
  have he4 := he3.next hbA
  have ha4 := ha3.next hbA
  have hb4 := hb3'.next hbA
  have hrd4 := (hrda.below hbA).more hbA.size
  have lbc : w.heap.size + 1 < bc := by rw [hbc]; exact lt2
  have hwsz : w.heap.size ≤ bc := by omega
  rw [← hbc] at kc ⊢
  clear m3 he3 ha3 hb3' hrda x0 x1 y0 y1 lt1 lt2 hbA hbc
  generalize w2.alloc (.cells #[.slice none 0 0, .bool (!ma)] 24) = w3 at *
  obtain ⟨i0, hi0, hz0', hz1', hz2'⟩ := info_parts Tryd.place_info
  have b1 : (0 : Int) ≤ (n : Int) := by omega
  have b2 : (n : Int) ≤ (la.length : Int) := by omega
  have b3 : (n : Int) ≤ (ca : Int) := by omega
  have b4 : (la.length : Int) ≤ (ca : Int) := by omega
  have b5 : ¬ ca = n := by omega
  have hbcs : bc + 1 ≤ w3.heap.size := kc.lt
  have hLD : (prow (la.drop n)).length = (la.length - n) * 2 := by rw [prow_len, List.length_drop]; omega
  have hLT : (prow (la.take n)).length = n * 2 := by rw [prow_len, List.length_take]; omega
  have HND : Hid (∀ (W : World) (B : Nat), Rd W B (some ad) (prow la) → ∀ j u, (prow (la.drop n))[j]? = some u → W.cell? ((ad.add (n * 2)).add j) = some u) := fun W B hR j u hu => by
    obtain ⟨ad', e, _, hc⟩ := hR (by intro e; have := prow_len la; rw [e] at this; simp at this; omega)
    injection e with e
    subst e
    rw [addr_add]
    refine hc _ u ?_
    rw [← hu, prow_drop, List.getElem?_drop, Nat.mul_comm]
  have HNT : Hid (∀ (W : World) (B : Nat), Rd W B (some ad) (prow la) → ∀ j u, (prow (la.take n))[j]? = some u → W.cell? (ad.add j) = some u) := fun W B hR j u hu => by
    obtain ⟨ad', e, _, hc⟩ := hR (by intro e; have := prow_len la; rw [e] at this; simp at this; omega)
    injection e with e
    subst e
    refine hc _ u ?_
    rw [prow_take, List.getElem?_take] at hu
    split at hu
    · exact hu
    · cases hu
  clear hLD hLT
  have HLD : Hid ((prow (la.drop n)).length = (la.length - n) * 2) := by show _ = _; rw [prow_len, List.length_drop]; omega
  have HLT : Hid ((prow (la.take n)).length = n * 2) := by show _ = _; rw [prow_len, List.length_take]; omega
  have o0 : w3.drew.ownsRow (bc + 1) 42 2 (.slice none 0 0) 0 [] := World.ownsRow_nil _ _ _ _
  refine wp_region_M 8 (by kernel_rfl) (fun X => X.cell? ⟨bc, 0, none⟩ = some (.slice none 0 0) ∧ X.cell? ⟨w.heap.size, 0, none⟩ = some (.slice (some ad) la.length ca)) ⟨(bk2 kc).1, m4.cells.1.1⟩ ?_
  intro hS0
  refine takeM (i := 0) (v := ?_) rfl (by kernel_rfl) (by decide) (by kernel_rfl) (by kernel_rfl) (by kernel_rfl) (fun _ _ _ h => h) (by rfl) (by assumption) ?_ ?_
  rotate_left
  · intro w hSw; (try dsimp only at hSw); go_simp <;> with_reducible rfl
  try simp only [Act.put, List.setIfInBounds_toArray, List.set_cons_zero, List.set_cons_succ]
  refine takeM (i := 1) (v := ?_) rfl (by kernel_rfl) (by decide) (by kernel_rfl) (by kernel_rfl) (by kernel_rfl) (fun _ _ _ h => h) (by rfl) (by assumption) ?_ ?_
  rotate_left
  · intro w hSw; (try dsimp only at hSw); go_simp <;> with_reducible rfl
  try simp only [Act.put, List.setIfInBounds_toArray, List.set_cons_zero, List.set_cons_succ]
  refine takeM (i := 2) (v := ?_) rfl (by kernel_rfl) (by decide) (by kernel_rfl) (by kernel_rfl) (by kernel_rfl) (fun _ _ _ h => h) (by rfl) (by assumption) ?_ ?_
  rotate_left
  · intro w hSw; (try dsimp only at hSw); go_simp <;> with_reducible rfl
  try simp only [Act.put, List.setIfInBounds_toArray, List.set_cons_zero, List.set_cons_succ]
  refine takeM (i := 3) (v := ?_) rfl (by kernel_rfl) (by decide) (by kernel_rfl) (by kernel_rfl) (by kernel_rfl) (fun _ _ _ h => h) (by rfl) (by assumption) ?_ ?_
  rotate_left
  · intro w hSw; (try dsimp only at hSw); go_simp <;> with_reducible rfl
  try simp only [Act.put, List.setIfInBounds_toArray, List.set_cons_zero, List.set_cons_succ]
  refine takeM (i := 4) (v := ?_) rfl (by kernel_rfl) (by decide) (by kernel_rfl) (by kernel_rfl) (by kernel_rfl) (fun _ _ _ h => h) (by rfl) (by assumption) ?_ ?_
  rotate_left
  · intro w hSw; (try dsimp only at hSw); go_simp <;> with_reducible rfl
  try simp only [Act.put, List.setIfInBounds_toArray, List.set_cons_zero, List.set_cons_succ]
  refine takeM (i := 5) (v := ?_) rfl (by kernel_rfl) (by decide) (by kernel_rfl) (by kernel_rfl) (by kernel_rfl) (fun _ _ _ h => h) (by rfl) (by assumption) ?_ ?_
  rotate_left
  · intro w hSw; (try dsimp only at hSw); go_simp <;> with_reducible rfl
  try simp only [Act.put, List.setIfInBounds_toArray, List.set_cons_zero, List.set_cons_succ]
  clear hS0
  refine stepM (i := 6) rfl (by kernel_rfl) (fun K0 hK0 => ?_)
  rw [if_pos (by rfl)]
  refine step_append_own (.tmp 62) (.tmp 66) 22 rfl (bc + 1) 42 i0 zpl 2 16 Tryd.underlying22 hi0 hz0' hz1' hz2' rfl (by omega) (.slice none 0 0) 0 ([]) (by rfl) o0 (ad.add (n * 2)) (la.length - n) (ca - n) (prow (la.drop n)) (by rfl) HLD.out (HND.out _ _ (hrd4.drew)) (prow_one _) (by unfold maxLen; omega) (by omega) (by exact hbcs) ?_
  intro v5 w5 hw1 hw2
  rw [Nat.zero_add, List.nil_append] at hw1
  obtain ⟨A5, c5, rfl, hc5⟩ := own_slice hw1
  have hbB : Below w3.heap.size w3 w5 := (Below.refl w3.heap.size w3).drew.grown hw2 (Nat.le_refl _) (fun k hk => by simp [Value.ownBlock] at hk)
  have m5 := m4.next hbB
  have kc5 := kc.next' hbB
  have hS5 := And.intro (bk2 kc5).1 m5.cells.1.1
  have f0 := kc5.frozen 0
  have g0 := (bk2 kc5).1
  have lc5 := kc5.lt
  clear hw2 o0 m4 kc hrd4 he4 ha4 hb4 hbcs
  dsimp only
  refine hK0.out _ _ (fun _ => hS5) (fun _ => ?_)
  clear hK0 K0
  try simp only [Act.put, List.setIfInBounds_toArray, List.set_cons_zero, List.set_cons_succ]
  refine takeM (i := 7) (v := ?_) rfl (by kernel_rfl) (by decide) (by kernel_rfl) (by kernel_rfl) (by kernel_rfl) (fun _ _ _ h => h) (by rfl) (by assumption) ?_ ?_
  rotate_left
  · intro w hSw; (try dsimp only at hSw); go_simp <;> with_reducible rfl
  try simp only [Act.put, List.setIfInBounds_toArray, List.set_cons_zero, List.set_cons_succ]
  refine stepM (i := 8) rfl (by kernel_rfl) (fun K0 hK0 => ?_)
  go_simp
  refine hK0.out _ _ (fun h => absurd rfl h) (fun _ => ?_)
  clear hK0 K0
  try simp only [Act.put, List.setIfInBounds_toArray, List.set_cons_zero, List.set_cons_succ]
  refine doneM (by kernel_rfl) ?_ _
  have kc6 : Bk (w5.setCell ⟨bc, 0, none⟩ (.slice A5 (la.length - n) c5)) bc 24 #[.slice A5 (la.length - n) c5, .bool (!ma)] := kc5.put 0 _
  have m6 := m5.put (p := ⟨bc, 0, none⟩) lbc (.slice A5 (la.length - n) c5)
  have hw6 := own_set (j := 0) hw1 (Nat.lt_succ_self bc) (.slice A5 (la.length - n) c5)
  have hbcs : bc + 1 ≤ (w5.setCell ⟨bc, 0, none⟩ (.slice A5 (la.length - n) c5)).heap.size := kc6.lt
  clear hS5 f0 g0 lc5 kc5 m5 hw1 hbB
  generalize w5.setCell ⟨bc, 0, none⟩ (.slice A5 (la.length - n) c5) = w6 at *
  have hrd6 : Rd w6 w.heap.size (some ad) (prow la) := ((ha.below m6.below)).rd
  have hle : la.length - n ≤ 8 := by omega
  have hrl : la.length - n + n = la.length := by omega
  have HRL := Lib.hid hrl
  clear hrl
  generalize hgd : la.length - n = dn0 at *
  have HGD := Lib.hid hgd
  clear hgd
  go_wp2_with fail
  refine wp_region_M 8 (by kernel_rfl) (fun X => X.cell? ⟨bc, 0, none⟩ = some (.slice A5 dn0 c5) ∧ X.cell? ⟨w.heap.size, 0, none⟩ = some (.slice (some ad) la.length ca)) ⟨(bk2 kc6).1, m6.cells.1.1⟩ ?_
  intro hS0
  refine takeM (i := 0) (v := ?_) rfl (by kernel_rfl) (by decide) (by kernel_rfl) (by kernel_rfl) (by kernel_rfl) (fun _ _ _ h => h) (by rfl) (by assumption) ?_ ?_
  rotate_left
  · intro w hSw; (try dsimp only at hSw); go_simp <;> with_reducible rfl
  try simp only [Act.put, List.setIfInBounds_toArray, List.set_cons_zero, List.set_cons_succ]
  refine takeM (i := 1) (v := ?_) rfl (by kernel_rfl) (by decide) (by kernel_rfl) (by kernel_rfl) (by kernel_rfl) (fun _ _ _ h => h) (by rfl) (by assumption) ?_ ?_
  rotate_left
  · intro w hSw; (try dsimp only at hSw); go_simp <;> with_reducible rfl
  try simp only [Act.put, List.setIfInBounds_toArray, List.set_cons_zero, List.set_cons_succ]
  refine takeM (i := 2) (v := ?_) rfl (by kernel_rfl) (by decide) (by kernel_rfl) (by kernel_rfl) (by kernel_rfl) (fun _ _ _ h => h) (by rfl) (by assumption) ?_ ?_
  rotate_left
  · intro w hSw; (try dsimp only at hSw); go_simp <;> with_reducible rfl
  try simp only [Act.put, List.setIfInBounds_toArray, List.set_cons_zero, List.set_cons_succ]
  refine takeM (i := 3) (v := ?_) rfl (by kernel_rfl) (by decide) (by kernel_rfl) (by kernel_rfl) (by kernel_rfl) (fun _ _ _ h => h) (by rfl) (by assumption) ?_ ?_
  rotate_left
  · intro w hSw; (try dsimp only at hSw); go_simp <;> with_reducible rfl
  try simp only [Act.put, List.setIfInBounds_toArray, List.set_cons_zero, List.set_cons_succ]
  refine takeM (i := 4) (v := ?_) rfl (by kernel_rfl) (by decide) (by kernel_rfl) (by kernel_rfl) (by kernel_rfl) (fun _ _ _ h => h) (by rfl) (by assumption) ?_ ?_
  rotate_left
  · intro w hSw; (try dsimp only at hSw); go_simp <;> with_reducible rfl
  try simp only [Act.put, List.setIfInBounds_toArray, List.set_cons_zero, List.set_cons_succ]
  refine takeM (i := 5) (v := ?_) rfl (by kernel_rfl) (by decide) (by kernel_rfl) (by kernel_rfl) (by kernel_rfl) (fun _ _ _ h => h) (by rfl) (by assumption) ?_ ?_
  rotate_left
  · intro w hSw; (try dsimp only at hSw); go_simp <;> with_reducible rfl
  try simp only [Act.put, List.setIfInBounds_toArray, List.set_cons_zero, List.set_cons_succ]
  clear hS0
  refine stepM (i := 6) rfl (by kernel_rfl) (fun K0 hK0 => ?_)
  rw [if_pos (by rfl)]
  refine step_append_own (.tmp 70) (.tmp 74) 22 rfl (bc + 1) 42 i0 zpl 2 16 Tryd.underlying22 hi0 hz0' hz1' hz2' rfl (by omega) (.slice A5 dn0 c5) dn0 (prow (la.drop n)) (by rfl) hw6 (ad) (n) (ca) (prow (la.take n)) (by rfl) HLT.out (HNT.out _ _ hrd6) (prow_one _) (by unfold maxLen; omega) (by omega) (by exact hbcs) ?_
  intro v7 w7 hw1 hw2
  obtain ⟨A7, c7, rfl, hc7⟩ := own_slice hw1
  have hne : ∀ g, (Value.slice A5 dn0 c5).ownBlock = some g → bc + 1 ≤ g := fun g hg => (hw6.lt g hg).1
  have m7 := m6.drew.grown hw2 (fun g hg => by have := hne g hg; omega)
  have kc7 := kc6.drew.grown hw2 (fun e => by have := hne _ e.symm; omega)
  have hS7 := And.intro (bk2 kc7).1 m7.cells.1.1
  have f0 := kc7.frozen 0
  have g0 := (bk2 kc7).1
  have lc7 := kc7.lt
  have hw1' : w7.ownsRow (bc + 1) 42 2 (.slice A7 (dn0 + n) c7) (rotl la n).length (prow (rotl la n)) := by
    rw [rotl_len]
    have e : prow (rotl la n) = prow (la.drop n) ++ prow (la.take n) := prow_app _ _
    rw [e, ← HRL.out]
    exact hw1
  clear hw2 m6 kc6 hbcs hrd6 hw6 hne hw1
  dsimp only
  refine hK0.out _ _ (fun _ => hS7) (fun _ => ?_)
  clear hK0 K0
  try simp only [Act.put, List.setIfInBounds_toArray, List.set_cons_zero, List.set_cons_succ]
  refine takeM (i := 7) (v := ?_) rfl (by kernel_rfl) (by decide) (by kernel_rfl) (by kernel_rfl) (by kernel_rfl) (fun _ _ _ h => h) (by rfl) (by assumption) ?_ ?_
  rotate_left
  · intro w hSw; (try dsimp only at hSw); go_simp <;> with_reducible rfl
  try simp only [Act.put, List.setIfInBounds_toArray, List.set_cons_zero, List.set_cons_succ]
  refine stepM (i := 8) rfl (by kernel_rfl) (fun K0 hK0 => ?_)
  go_simp
  refine hK0.out _ _ (fun h => absurd rfl h) (fun _ => ?_)
  clear hK0 K0
  try simp only [Act.put, List.setIfInBounds_toArray, List.set_cons_zero, List.set_cons_succ]
  refine doneM (by kernel_rfl) ?_ _
  have kc8 : Bk (w7.setCell ⟨bc, 0, none⟩ (.slice A7 (dn0 + n) c7)) bc 24 #[.slice A7 (dn0 + n) c7, .bool (!ma)] := kc7.put 0 _
  have m8 := m7.put (p := ⟨bc, 0, none⟩) lbc (.slice A7 (dn0 + n) c7)
  have hw8 := own_set (j := 0) hw1' (Nat.lt_succ_self bc) (.slice A7 (dn0 + n) c7)
  have hvc := validC_rotl HVA.out hnl
  have hC8 := own_isC hw8 hvc.2.2.1 (!ma)
  clear f0 g0 lc7 kc7 m7 hw1' hw8 HLD HLT HND HNT i0 hi0 hz0' hz1' hz2' b1 b2 b3 b4 b5
  generalize w7.setCell ⟨bc, 0, none⟩ (.slice A7 (dn0 + n) c7) = w8 at *
  have e1 := (commonQ_rotl HVB.out HVA.out n).trans (commonQ_symm HVB.out HVA.out)
  have e2 := (commonQ_rotl HVA.out HVA.out n).trans (commonQ_self HVA.out)
  have C2 := Lib.hid (fun W h1 h2 h3 => Common_any lb (rotl la n) mb (!ma) (.agg #[.slice A' lb.length cb, .bool mb]) (.agg #[.slice A7 (dn0 + n) c7, .bool (!ma)]) W h1 h2 h3 true ⟨fun _ => ⟨HVB.out, hvc⟩, fun _ => rfl⟩)
  have C3 := Lib.hid (fun W h1 h2 h3 => Common_any la (rotl la n) ma (!ma) (.agg #[.slice (some ad) la.length ca, .bool ma]) (.agg #[.slice A7 (dn0 + n) c7, .bool (!ma)]) W h1 h2 h3 true ⟨fun _ => ⟨HVA.out, hvc⟩, fun _ => rfl⟩)
  have D1 := Lib.hid (fun W h1 h2 => Area_any la ma (.agg #[.slice (some ad) la.length ca, .bool ma]) W h1 h2 true ⟨fun _ => HVA.out, fun _ => rfl⟩)
  have D2 := Lib.hid (fun W h1 h2 => Area_any lb mb (.agg #[.slice A' lb.length cb, .bool mb]) W h1 h2 true ⟨fun _ => HVB.out, fun _ => rfl⟩)
  rw [e1] at C2
  rw [e2] at C3
  have BD := commonQ_bounds HVA.out HVB.out
  have z1 := commonQ_szT HVA.out HVB.out (dx := 0) (by omega)
  have z2 := areaC_szT HVA.out
  have z3 := areaC_szT HVB.out
  have L1 := Lib.hid (fun W => qlong_text (commonQ la lb 0) W z1)
  have L2 := Lib.hid (fun W => qlong_text (areaQ (poly la 0)) W z2)
  have L3 := Lib.hid (fun W => qlong_text (areaQ (poly lb 0)) W z3)
  have hsg : 0 ≤ sgQ (commonQ la lb 0) := (sgQ_ge _).2 BD.1
  have hcm1 : cmpQ (commonQ la lb 0) (areaQ (poly la 0)) ≤ 0 := cmpQ_le BD.2.1
  have hcm2 : cmpQ (commonQ la lb 0) (areaQ (poly lb 0)) ≤ 0 := cmpQ_le BD.2.2
  simp only [if_true] at C2 C3 D1 D2
  clear e1 e2 BD hvc
  generalize commonQ la lb 0 = X at *
  generalize areaQ (poly la 0) = P at *
  generalize areaQ (poly lb 0) = Y at *
  generalize ratText X = tx at *
  generalize ratText P = tp at *
  generalize ratText Y = ty at *
  obtain ⟨⟨x0, x1⟩, ⟨y0, y1⟩⟩ := m8.cells
  obtain ⟨c0, c1⟩ := bk2 kc8
  go_wp2_with fail
  refine (C2.out w8 ((hb.below m8.below).more m8.below.size) hC8 (he.next m8.below)).mono ?_
  rintro e w9 ⟨hbm, rfl⟩
  have m9 := m8.next hbm
  have kc9 := kc8.next' hbm
  have hC9 := hC8.next hbm
  clear C2 m8 kc8 hC8 hbm x0 x1 y0 y1 c0 c1
  obtain ⟨⟨x0, x1⟩, ⟨y0, y1⟩⟩ := m9.cells
  obtain ⟨c0, c1⟩ := bk2 kc9
  go_wp2_with fail
  refine (D1.out w9 ((ha.below m9.below).more m9.below.size) (he.next m9.below)).mono ?_
  rintro e w10 ⟨hbm, rfl⟩
  have m10 := m9.next hbm
  have kc10 := kc9.next' hbm
  have hC10 := hC9.next hbm
  clear D1 m9 kc9 hC9 hbm x0 x1 y0 y1 c0 c1
  obtain ⟨⟨x0, x1⟩, ⟨y0, y1⟩⟩ := m10.cells
  obtain ⟨c0, c1⟩ := bk2 kc10
  go_wp2_with fail
  refine (D2.out w10 ((hb.below m10.below).more m10.below.size) (he.next m10.below)).mono ?_
  rintro e w11 ⟨hbm, rfl⟩
  have m11 := m10.next hbm
  have kc11 := kc10.next' hbm
  have hC11 := hC10.next hbm
  clear D2 m10 kc10 hC10 hbm x0 x1 y0 y1 c0 c1
  obtain ⟨⟨x0, x1⟩, ⟨y0, y1⟩⟩ := m11.cells
  obtain ⟨c0, c1⟩ := bk2 kc11
  go_wp2_with fail
  refine (C3.out w11 ((ha.below m11.below).more m11.below.size) hC11 (he.next m11.below)).mono ?_
  rintro e w12 ⟨hbm, rfl⟩
  have hB12 := m11.below.trans (hbm.mono m11.below.size)
  clear C3 m11 kc11 hC11 hbm x0 x1 y0 y1 c0 c1
  go_wp2_with fail
  refine (L1.out w12).mono ?_
  rintro e w13 ⟨hbm, q1, rfl, hq1⟩
  obtain ⟨t1, E1, n1, d1, E1', n1', d1', rfl⟩ := hq1.form
  have hB13 := hB12.trans (hbm.mono hB12.size)
  clear L1 hbm hB12
  have k13 := Bk.new w13 35 #[.bool t1, .slice E1 n1 d1, .slice E1' n1' d1']
  have hbA := below_alloc w13 (.cells #[.bool t1, .slice E1 n1 d1, .slice E1' n1' d1'] 35)
  have hq1' := hq1.next hbA
  have hB14 := hB13.trans (hbA.mono hB13.size)
  obtain ⟨g1, hg1⟩ : ∃ g, g = w13.heap.size := ⟨_, rfl⟩
  go_wp2_with fail
  rw [← hg1] at k13 ⊢
  clear hq1 hbA hB13 hg1
  generalize w13.alloc (.cells #[.bool t1, .slice E1 n1 d1, .slice E1' n1' d1'] 35) = w14 at *
  refine (L2.out w14).mono ?_
  rintro e w15 ⟨hbm, q2, rfl, hq2⟩
  obtain ⟨t2, E2, n2, d2, E2', n2', d2', rfl⟩ := hq2.form
  have hB15 := hB14.trans (hbm.mono hB14.size)
  have k15 := k13.next' hbm
  have hq15 := hq1'.next hbm
  clear L2 hbm hB14 k13 hq1'
  have j15 := Bk.new w15 35 #[.bool t2, .slice E2 n2 d2, .slice E2' n2' d2']
  have hbA := below_alloc w15 (.cells #[.bool t2, .slice E2 n2 d2, .slice E2' n2' d2'] 35)
  have hq2' := hq2.next hbA
  have hq16 := hq15.next hbA
  have k16 := k15.next' hbA
  have hB16 := hB15.trans (hbA.mono hB15.size)
  obtain ⟨g2, hg2⟩ : ∃ g, g = w15.heap.size := ⟨_, rfl⟩
  go_wp2_with fail
  rw [← hg2] at j15 ⊢
  clear hq2 hq15 k15 hbA hB15 hg2
  generalize w15.alloc (.cells #[.bool t2, .slice E2 n2 d2, .slice E2' n2' d2'] 35) = w16 at *
  refine (L3.out w16).mono ?_
  rintro e w17 ⟨hbm, q3, rfl, hq3⟩
  obtain ⟨t3, E3, n3, d3, E3', n3', d3', rfl⟩ := hq3.form
  have hB17 := hB16.trans (hbm.mono hB16.size)
  have k17 := k16.next' hbm
  have j17 := j15.next' hbm
  have hq17 := hq16.next hbm
  have hr17 := hq2'.next hbm
  clear L3 hbm hB16 k16 j15 hq16 hq2'
  have i17 := Bk.new w17 35 #[.bool t3, .slice E3 n3 d3, .slice E3' n3' d3']
  have hbA := below_alloc w17 (.cells #[.bool t3, .slice E3 n3 d3, .slice E3' n3' d3'] 35)
  have hq3' := hq3.next hbA
  have hq18 := hq17.next hbA
  have hr18 := hr17.next hbA
  have k18 := k17.next' hbA
  have j18 := j17.next' hbA
  have hB18 := hB17.trans (hbA.mono hB17.size)
  obtain ⟨g3, hg3⟩ : ∃ g, g = w17.heap.size := ⟨_, rfl⟩
  obtain ⟨p0, p1, p2⟩ := bk3 k17
  obtain ⟨r0, r1, r2⟩ := bk3 j17
  have lp := k17.lt
  have lr := j17.lt
  go_wp2_with fail
  rw [← hg3] at i17 ⊢
  clear hq3 hq17 hr17 k17 j17 hbA hB17 p0 p1 p2 r0 r1 r2 lp lr hg3
  generalize w17.alloc (.cells #[.bool t3, .slice E3 n3 d3, .slice E3' n3' d3'] 35) = w18 at *
  refine (qsgn_any X _ w18 hq18 (by omega)).mono ?_
  rintro e w19 ⟨hbm, rfl⟩
  have hB19 := hB18.trans (hbm.mono hB18.size)
  have k19 := k18.next' hbm
  have j19 := j18.next' hbm
  have i19 := i17.next' hbm
  have hx19 := hq18.next hbm
  have hp19 := hr18.next hbm
  have hy19 := hq3'.next hbm
  clear hbm hB18 k18 j18 i17 hq18 hr18 hq3'
  generalize sgQ X = sx at *
  obtain ⟨p0, p1, p2⟩ := bk3 k19
  obtain ⟨r0, r1, r2⟩ := bk3 j19
  go_wp2_with fail
  refine (qcmp_any X P _ _ w19 hx19 hp19 (by omega) (by omega)).mono ?_
  rintro e w20 ⟨hbm, rfl⟩
  have hB20 := hB19.trans (hbm.mono hB19.size)
  have k20 := k19.next' hbm
  have i20 := i19.next' hbm
  have hx20 := hx19.next hbm
  have hy20 := hy19.next hbm
  clear hbm hB19 k19 j19 i19 hx19 hp19 hy19 p0 p1 p2 r0 r1 r2
  generalize cmpQ X P = cx at *
  obtain ⟨p0, p1, p2⟩ := bk3 k20
  obtain ⟨r0, r1, r2⟩ := bk3 i20
  go_wp2_with fail
  refine (qcmp_any X Y _ _ w20 hx20 hy20 (by omega) (by omega)).mono ?_
  rintro e w21 ⟨hbm, rfl⟩
  have hB21 := hB20.trans (hbm.mono hB20.size)
  clear hbm hB20 k20 i20 hx20 hy20 p0 p1 p2 r0 r1 r2
  generalize cmpQ X Y = cy at *
  go_wp2_with fail
  refine (sane_any w21 (he.next hB21)).mono ?_
  rintro e w22 ⟨hbm, rfl⟩
  go_wp2
  go_ret
  exact ⟨hB21.trans (hbm.mono hB21.size), rfl⟩
end Go.Proofs.YtblopapobmbboaaDoor
