import Derived.Test.YtekokogmnhlchaaGreatDoorF2
set_option linter.unusedSimpArgs false
set_option linter.unusedVariables false
set_option linter.unusedSectionVars false
namespace Go.Proofs.YtekokogmnhlchaaGreatDoor
open Go.RowKit
theorem CopR.els {F : Nat → Prop} {M n c : Nat} {w0 w : World} {A : Option Addr} {W : List Tb} {xs : List Value} (h : CopR F M w0 w (.slice A n c) n W xs) (hl : W.length = n) (hb : Below w0.heap.size w0 w) (hF : ∀ b, F b → b < M) : Els (TabR F w) 4 W xs :=
  Els.of_get (by rw [h.len, hl]) fun i hi => by
    obtain ⟨CA, cc, XA, xc, RA, rc, e0, e1, e2, e3, k1, k2, k3, h1, h2, h3⟩ := (h.tab i W[i] (by omega) (List.getElem?_eq_getElem hi)).rows hb hF
    refine ⟨_, rfl, ⟨CA, cc, XA, xc, RA, rc, rfl, k1, k2, k3, h1, h2, h3⟩, fun j hj => ?_⟩
    rcases j with _ | _ | _ | _ | j
    · exact e0
    · exact e1
    · exact e2
    · exact e3
    omega
theorem tab_one {F : Nat → Prop} (l : List Tb) (w : World) {xs : List Value} (h : Els (TabR F w) 4 l xs) : ∀ u ∈ xs, u.oneCell' = true := by
  intro u hu
  obtain ⟨j, hj, rfl⟩ := List.getElem_of_mem hu
  have hl := h.len
  obtain ⟨v, hv, ⟨CA, cc, XA, xc, RA, rc, rfl, _⟩, hg⟩ := h.at_ (j / 4) (by omega)
  have h1 := hg (j % 4) (by omega)
  rw [show j / 4 * 4 + j % 4 = j by omega, List.getElem?_eq_getElem hj] at h1
  have h4 : j % 4 = 0 ∨ j % 4 = 1 ∨ j % 4 = 2 ∨ j % 4 = 3 := by omega
  rcases h4 with h4 | h4 | h4 | h4 <;> rw [h4] at h1 <;> simp only [List.getElem?_cons_zero, List.getElem?_cons_succ, Option.some.injEq] at h1 <;> rw [h1] <;> rfl
theorem less_cmp : ∀ a b : List UInt8, Op.bytesLess a b = decide (cmpB a b < 0)
  | [], [] => rfl
  | [], _ :: _ => rfl
  | _ :: _, [] => rfl
  | x :: a, y :: b => by
    rw [Op.bytesLess, cmpB, less_cmp a b]
    by_cases h : x < y
    · simp [h]
    by_cases h2 : y < x
    · have hne : (x == y) = false := by
        rw [beq_eq_false_iff_ne]
        intro e
        subst e
        exact absurd h2 (u8_asymm h2)
      simp [h, h2, hne]
    have : x = y := by
      rcases u8_tri x y with h3 | h3 | h3
      · exact absurd h3 h
      · exact h3
      exact absurd h3 h2
    subst this
    simp [h]
theorem le15_at {nm : ByteArray} : ∀ {W : List Tb} {k : Nat} (hk : k < W.length), (∀ j (h : j < W.length), j < k → cmpB W[j].s.name.data.toList nm.data.toList < 0) → (k < W.length → ¬ cmpB W[k].s.name.data.toList nm.data.toList < 0) → le15 nm W = k
  | T :: W, 0, _, _, h => by
    have := h (by simp)
    simp only [List.getElem_cons_zero] at this
    rw [le15, if_neg this]
  | T :: W, k + 1, hk, hn, h => by
    have h0 := hn 0 (by simp) (by omega)
    simp only [List.getElem_cons_zero] at h0
    rw [le15, if_pos h0, le15_at (k := k) (by simpa using hk) (fun j hj hjk => by have := hn (j + 1) (by simpa using hj) (by omega); simpa using this) (fun hj => by have := h (by simpa using hj); simpa using this)]
theorem le15_end {nm : ByteArray} : ∀ {W : List Tb} {n : Nat}, W.length = n → (∀ j (h : j < W.length), j < n → cmpB W[j].s.name.data.toList nm.data.toList < 0) → le15 nm W = n
  | [], n, h, _ => h
  | T :: W, n, h, hn => by
    simp only [List.length_cons] at h
    have h0 := hn 0 (by simp) (by omega)
    simp only [List.getElem_cons_zero] at h0
    rw [le15, if_pos h0, le15_end (n := W.length) rfl (fun j hj hjk => by have := hn (j + 1) (by simpa using hj) (by omega); simpa using this)]
    exact h
set_option maxHeartbeats 6400000 in
set_option maxRecDepth 1000000 in
theorem cre15_any {F : Nat → Prop} (A : Option Addr) (n c : Nat) (W : List Tb) (s : Sch) (sv : Value) (w : World) (hW : DBR F w A n W) (hFo : ∀ b, F b → b < w.heap.size) (ho : OkW W) (hs : SchV w s sv) (h1 : s.name.size ≤ 1000000000) (h2 : ∀ c ∈ s.cols, c.name.size ≤ 1000000000) (h3 : s.cols.length ≤ 1000000000) (h4 : s.ixs.length ≤ 1000000000) :
    Calls Tryz.prog 76 #[.agg #[.slice A n c], sv] w (Db15 F w (creD15 W s) (creE15 W s)) := by
  have hn4 : n ≤ 4 := hW.1 ▸ ho.n4
  obtain ⟨CA, cc, XA, xc, rfl, k1, k2, hC, hX⟩ := hs
  obtain ⟨rs, hrs⟩ : ∃ rs, rightS s = rs := ⟨_, rfl⟩
  have e1 : creE15 W s = if rs then (if 0 ≤ atD W s.name then 60 else if 4 ≤ n then 2 else 0) else 61 := by rw [creE15, hrs, hW.1]
  have e2 : creE15 W s ≠ 0 → creD15 W s = W := fun h => by rw [creD15, if_neg h]
  have e3 : creE15 W s = 0 → creD15 W s = W.take (le15 s.name W) ++ ⟨s, []⟩ :: W.drop (le15 s.name W) := fun h => by rw [creD15, if_pos h]
  have hright := fun W' (hb : Below w.heap.size w W') => right14_any s (.agg #[.string s.name, .slice CA s.cols.length cc, .slice XA s.ixs.length xc]) W' ⟨CA, cc, XA, xc, rfl, k1, k2, hC.below hb, hX.below hb⟩ h1 h2 h3 h4
  rw [hrs] at hright
  have hat := fun W' (hb : Below w.heap.size w W') => at15_any A n c W s.name W' (hW.below hb) (by omega)
  obtain ⟨ai, hai⟩ : ∃ ai, atD W s.name = ai := ⟨_, rfl⟩
  rw [hai] at hat e1
  obtain ⟨DD, hDD⟩ : ∃ DD, creD15 W s = DD := ⟨_, rfl⟩
  obtain ⟨EE, hEE⟩ : ∃ EE, creE15 W s = EE := ⟨_, rfl⟩
  rw [hDD, hEE] at e2 e3
  rw [hEE] at e1
  rw [hDD, hEE]
  obtain ⟨cn, hcn⟩ : ∃ cn, s.cols.length = cn := ⟨_, rfl⟩
  obtain ⟨xn, hxn⟩ : ∃ xn, s.ixs.length = xn := ⟨_, rfl⟩
  obtain ⟨un, hun⟩ : ∃ un, s.name = un := ⟨_, rfl⟩
  rw [hcn] at hright hC h3 k1 ⊢
  rw [hxn] at hright hX h4 k2 ⊢
  rw [hun] at hright hat ⊢
  have ha0 := (Below.refl w.heap.size w).alloc (Nat.le_refl _) (.cells #[.slice A n c] 73)
  have ha1 := ha0.alloc ha0.size (.cells #[.string un, .slice CA cn cc, .slice XA xn xc] 25)
  have ha2 := ha1.alloc ha1.size (.cells #[.slice none 0 0] 73)
  have n0 := ((Blk.new w #[.slice A n c] 73).alloc (.cells #[.string un, .slice CA cn cc, .slice XA xn xc] 25)).alloc (.cells #[.slice none 0 0] 73)
  have n1 := (Blk.new (w.alloc (.cells #[.slice A n c] 73)) #[.string un, .slice CA cn cc, .slice XA xn xc] 25).alloc (.cells #[.slice none 0 0] 73)
  have n2 := Blk.new ((w.alloc (.cells #[.slice A n c] 73)).alloc (.cells #[.string un, .slice CA cn cc, .slice XA xn xc] 25)) #[.slice none 0 0] 73
  rw [show (w.alloc (.cells #[.slice A n c] 73)).heap.size = w.heap.size + 1 by simp] at n1
  rw [show ((w.alloc (.cells #[.slice A n c] 73)).alloc (.cells #[.string un, .slice CA cn cc, .slice XA xn xc] 25)).heap.size = w.heap.size + 1 + 1 by simp] at n2
  have hz : (((w.alloc (.cells #[.slice A n c] 73)).alloc (.cells #[.string un, .slice CA cn cc, .slice XA xn xc] 25)).alloc (.cells #[.slice none 0 0] 73)).heap.size = w.heap.size + 1 + 1 + 1 := by simp
  obtain ⟨W1, hW1⟩ : ∃ W1, ((w.alloc (.cells #[.slice A n c] 73)).alloc (.cells #[.string un, .slice CA cn cc, .slice XA xn xc] 25)).alloc (.cells #[.slice none 0 0] 73) = W1 := ⟨_, rfl⟩
  rw [hW1] at n0 n1 n2 ha2 hz
  have HW0 := hide hW
  have HFo := hide hFo
  have HC := hide hC
  have HX := hide hX
  have Ha2 := hide ha2
  have N0 := hide n0
  have N1 := hide n1
  have N2 := hide n2
  have Hl := hide hW.1
  have Hz := hide hz
  have He1 := hide e1
  have He2 := hide e2
  have He3 := hide e3
  have Hright := hide hright
  have Hat := hide hat
  have Hai := hide hai
  have Hrs := hide hrs
  have Hcn := hide hcn
  have Hxn := hide hxn
  have Hun := hide hun
  have Hk1 := hide k1
  have Hk2 := hide k2
  have p0 := N1.out.c 0 (v := .string un) rfl
  have p1 := N1.out.c 1 (v := .slice CA cn cc) rfl
  have p2 := N1.out.c 2 (v := .slice XA xn xc) rfl
  clear ha0 ha1 ha2 n0 n1 n2 hz hW hFo hC hX e1 e2 e3 hright hat hai hrs hDD hEE hcn hxn hun k1 k2
  go_enter Tryz.func76, Tryz.ntmps76
  go_wp2_with fail
  refine (Hright.out W1 Ha2.out).mono ?_
  rintro e w2 ⟨rfl, hb2⟩
  have HB2 := hide hb2
  clear hb2 p0 p1 p2 Hright
  cases rs with
  | false =>
    obtain rfl : EE = 61 := He1.out
    obtain rfl : DD = W := He2.out (by decide)
    clear He1 He2 He3
    have m0 := N0.out.below HB2.out
    have m2 := N2.out.below HB2.out
    have b0 := m0.c 0 (v := .slice A n c) rfl
    have d2 := m2.c 0 (v := .slice none 0 0) rfl
    have f2 := m2.fr 0
    have r2 := (m2.set 0 (.slice A n c)).c 0 (v := .slice A n c) rfl
    have HBE := hide ((below_chain Ha2.out HB2.out).setCell (p := ⟨w.heap.size + 1 + 1, 0, none⟩) (by show w.heap.size ≤ w.heap.size + 1 + 1; omega) (.slice A n c))
    clear m0 m2
    go_wp2_with fail
    refine bodyPost_ret (v := .tuple #[.agg #[.slice A n c], .int .i64 61]) (by simp [results, Tryz.results76, go_sem, r2]) rfl ?_
    exact ⟨A, n, c, rfl, HW0.out.below HBE.out, HBE.out⟩
  | true =>
    have b0 := (N0.out.below HB2.out).c 0 (v := .slice A n c) rfl
    have p0 := (N1.out.below HB2.out).c 0 (v := .string un) rfl
    go_wp2_with fail
    refine (Hat.out w2 (below_chain Ha2.out HB2.out)).mono ?_
    rintro e w3 ⟨rfl, hb3⟩
    have HB3 := hide (below_then HB2.out HB2.out.size hb3)
    clear hb3 b0 p0 Hat
    by_cases ha : 0 ≤ ai
    · obtain rfl : EE = 60 := by rw [He1.out]; simp [ha]
      obtain rfl : DD = W := He2.out (by decide)
      clear He1 He2 He3
      have m0 := N0.out.below HB3.out
      have m2 := N2.out.below HB3.out
      have b0 := m0.c 0 (v := .slice A n c) rfl
      have d2 := m2.c 0 (v := .slice none 0 0) rfl
      have f2 := m2.fr 0
      have r2 := (m2.set 0 (.slice A n c)).c 0 (v := .slice A n c) rfl
      have HBE := hide ((below_chain Ha2.out HB3.out).setCell (p := ⟨w.heap.size + 1 + 1, 0, none⟩) (by show w.heap.size ≤ w.heap.size + 1 + 1; omega) (.slice A n c))
      clear m0 m2
      go_wp2_with fail
      refine bodyPost_ret (v := .tuple #[.agg #[.slice A n c], .int .i64 60]) (by simp [results, Tryz.results76, go_sem, r2]) rfl ?_
      exact ⟨A, n, c, rfl, HW0.out.below HBE.out, HBE.out⟩
    by_cases h4n : 4 ≤ n
    · obtain rfl : EE = 2 := by rw [He1.out]; simp [ha, h4n]
      obtain rfl : DD = W := He2.out (by decide)
      have h4i : (4 : Int) ≤ (n : Int) := by omega
      clear He1 He2 He3
      have m0 := N0.out.below HB3.out
      have m2 := N2.out.below HB3.out
      have b0 := m0.c 0 (v := .slice A n c) rfl
      have d2 := m2.c 0 (v := .slice none 0 0) rfl
      have f2 := m2.fr 0
      have r2 := (m2.set 0 (.slice A n c)).c 0 (v := .slice A n c) rfl
      have HBE := hide ((below_chain Ha2.out HB3.out).setCell (p := ⟨w.heap.size + 1 + 1, 0, none⟩) (by show w.heap.size ≤ w.heap.size + 1 + 1; omega) (.slice A n c))
      clear m0 m2
      go_wp2_with fail
      refine bodyPost_ret (v := .tuple #[.agg #[.slice A n c], .int .i64 2]) (by simp [results, Tryz.results76, go_sem, r2]) rfl ?_
      exact ⟨A, n, c, rfl, HW0.out.below HBE.out, HBE.out⟩
    obtain rfl : EE = 0 := by rw [He1.out]; simp [ha, h4n]
    obtain rfl := He3.out rfl
    clear He1 He2 He3
    have h4i : ¬ (4 : Int) ≤ (n : Int) := by omega
    have b0 := (N0.out.below HB3.out).c 0 (v := .slice A n c) rfl
    have p1 := (N1.out.below HB3.out).c 1 (v := .slice CA cn cc) rfl
    have fp1 := (N1.out.below HB3.out).fr 1
    have hbw3 := below_chain Ha2.out HB3.out
    have HRc := hide (HC.out.below hbw3)
    have HRx := hide (HX.out.below hbw3)
    have Hbw3 := hide hbw3
    clear hbw3
    have N1w := N1.out.below HB3.out
    go_wp2_with (first
      | (at_builtin; refine wp_app (base := W1.heap.size) (n := 0) (xs := []) colT rfl rfl (World.ownsRow_nil _ _ _ _) rfl HRc.out rfl (col_one _) (by omega) (by omega) HB3.out.size ?_; intro CB dc w4 hown4 hb4 hg4 hat4; have N1x := N1w.belowM hb4 N1.out.lt; have p1x := N1x.c 1 (v := .slice CA cn cc) rfl; have f1x := N1x.fr 1; have p2x := N1x.c 2 (v := .slice XA xn xc) rfl; have p2y := (N1x.set 1 (.slice CB cn dc)).c 2 (v := .slice XA xn xc) rfl)
      | (at_builtin; refine unhide ?_)
      | fail)
    rw [Nat.zero_add] at hown4
    simp only [Nat.zero_add, List.nil_append] at hown4 ⊢
    refine hide ?_
    have B5 : Below w.heap.size w (w4.setCell ⟨w.heap.size + 1, 1, none⟩ (.slice CB cn dc)) := (Hbw3.out.trans (hb4.mono Ha2.out.size)).setCell (p := ⟨w.heap.size + 1, 1, none⟩) (by show w.heap.size ≤ w.heap.size + 1; omega) _
    have N05 := ((N0.out.below HB3.out).belowM hb4 N0.out.lt).set_other (a := ⟨w.heap.size + 1, 1, none⟩) (by show w.heap.size ≠ w.heap.size + 1; omega) (.slice CB cn dc)
    have N25 := ((N2.out.below HB3.out).belowM hb4 N2.out.lt).set_other (a := ⟨w.heap.size + 1, 1, none⟩) (by show w.heap.size + 1 + 1 ≠ w.heap.size + 1; omega) (.slice CB cn dc)
    have N15 := N1x.set 1 (.slice CB cn dc)
    have hCB5 := own_set hown4 (a := ⟨w.heap.size + 1, 1, none⟩) (by have := N1.out.lt; exact this) (.slice CB cn dc)
    have hz5 : W1.heap.size ≤ (w4.setCell ⟨w.heap.size + 1, 1, none⟩ (.slice CB cn dc)).heap.size := by
      have h1 := hb4.size
      have h2 := HB3.out.size
      simp only [World.setCell, Array.size_modify]
      omega
    have HRx5 := HX.out.below B5
    obtain ⟨w5, hw5⟩ : ∃ w5, w4.setCell ⟨w.heap.size + 1, 1, none⟩ (.slice CB cn dc) = w5 := ⟨_, rfl⟩
    rw [hw5] at B5 N05 N25 N15 hCB5 hz5 HRx5 ⊢
    have HB5 := hide B5
    have H05 := hide N05
    have H25 := hide N25
    have H15 := hide N15
    have HCB5 := hide hCB5
    have HRx5 := hide HRx5
    clear B5 N05 N25 N15 hCB5 hown4 hb4 hg4 hat4 N1x p1x f1x p2x p2y N1w b0 p1 fp1 hw5
    refine wp_app (base := W1.heap.size) (n := 0) (xs := []) ixT rfl rfl (World.ownsRow_nil _ _ _ _) rfl HRx5.out rfl (ix_one _) (by omega) (by omega) hz5 ?_
    intro XB yc w6 hown6 hb6 hg6 hat6
    rw [Nat.zero_add] at hown6
    simp only [Nat.zero_add, List.nil_append] at hown6 ⊢
    have hCB6 := HCB5.out.kept hg6 (own_diff' HCB5.out (World.ownsRow_nil w5 W1.heap.size 68 2) (by decide))
    have N16 := H15.out.belowM hb6 N1.out.lt
    have N06 := H05.out.belowM hb6 N0.out.lt
    have N26 := H25.out.belowM hb6 N2.out.lt
    have B7 : Below w.heap.size w (w6.setCell ⟨w.heap.size + 1, 2, none⟩ (.slice XB xn yc)) := (HB5.out.trans (hb6.mono Ha2.out.size)).setCell (p := ⟨w.heap.size + 1, 2, none⟩) (by show w.heap.size ≤ w.heap.size + 1; omega) _
    have N07 := N06.set_other (a := ⟨w.heap.size + 1, 2, none⟩) (by show w.heap.size ≠ w.heap.size + 1; omega) (.slice XB xn yc)
    have N27 := N26.set_other (a := ⟨w.heap.size + 1, 2, none⟩) (by show w.heap.size + 1 + 1 ≠ w.heap.size + 1; omega) (.slice XB xn yc)
    have N17 := N16.set 2 (.slice XB xn yc)
    have hCB7 := own_set hCB6 (a := ⟨w.heap.size + 1, 2, none⟩) (by have := N1.out.lt; exact this) (.slice XB xn yc)
    have hXB7 := own_set hown6 (a := ⟨w.heap.size + 1, 2, none⟩) (by have := N1.out.lt; exact this) (.slice XB xn yc)
    have hz7 : W1.heap.size ≤ (w6.setCell ⟨w.heap.size + 1, 2, none⟩ (.slice XB xn yc)).heap.size := by
      have h1 := hb6.size
      simp only [World.setCell, Array.size_modify]
      omega
    have p2 := N16.c 2 (v := .slice XA xn xc) rfl
    have f2 := N16.fr 2
    obtain ⟨w7, hw7⟩ : ∃ w7, w6.setCell ⟨w.heap.size + 1, 2, none⟩ (.slice XB xn yc) = w7 := ⟨_, rfl⟩
    rw [hw7] at B7 N07 N27 N17 hCB7 hXB7 hz7
    have HB7 := hide B7
    have H07 := hide N07
    have H27 := hide N27
    have H17 : Hid (Blk w7 (w.heap.size + 1) #[.string un, .slice CB cn dc, .slice XB xn yc] 25) := hide N17
    have HCB7 := hide hCB7
    have HXB7 := hide hXB7
    have HZ7 := hide hz7
    clear B7 N07 N27 N17 hCB7 hXB7 hCB6 N16 N06 N26 hown6 hb6 hg6 hat6 HRx5 HCB5 H15 H05 H25 HB5 hz5 hz7
    go_wp2_with fail
    clear p2 f2 hw7
    go_loopw [8] (fun kv wr => ∃ k : Nat, k ≤ n ∧ kv = .int .i64 k ∧ Hid (∀ j (h : j < W.length), j < k → cmpB W[j].s.name.data.toList un.data.toList < 0) ∧ Hid (Below w7.heap.size w7 wr)) (fun kv _ => n - (intOf kv).toNat)
    case atStart => exact ⟨0, Nat.zero_le _, rfl, hide (fun j h hj => by omega), hide (Below.refl _ _)⟩
    case round =>
      obtain ⟨k, hk, rfl, HN, HB⟩ := hrel
      have c0 := (H07.out.below HB.out).c 0 (v := .slice A n c) rfl
      by_cases hlt : k < n
      · have hkW : k < W.length := by rw [Hl.out]; exact hlt
        obtain ⟨b, o, _, _, _, _, _, _, rfl, x0, _⟩ := ((HW0.out.below HB7.out).below HB.out).at_ k hlt hkW
        have q0 := (H17.out.below HB.out).c 0 (v := .string un) rfl
        obtain ⟨tn, htn⟩ : ∃ tn, W[k].s.name = tn := ⟨_, rfl⟩
        rw [htn] at x0
        have Htn := hide htn
        clear htn
        have hki : (k : Int) < (n : Int) := by omega
        cases hbl : Op.bytesLess tn.toList un.toList with
        | true =>
          have hlb : cmpB tn.data.toList un.data.toList < 0 := by
            rw [ByteArray.toList_eq, ByteArray.toList_eq, less_cmp] at hbl
            simpa using hbl
          have HN2 : Hid (∀ j (h : j < W.length), j < k + 1 → cmpB W[j].s.name.data.toList un.data.toList < 0) := hide fun j h hj => by
            rcases Nat.lt_or_eq_of_le (Nat.le_of_lt_succ hj) with h4 | h4
            · exact HN.out j h h4
            subst h4; rw [Htn.out]; exact hlb
          clear hlb
          go_wp2_with fail
          go_quiet (fail)
          all_goals
            go_wp2_with fail
            exact ⟨⟨k + 1, hlt, by go_num, HN2, hide (below_drewN HB.out _)⟩, by simp [intOf]; omega⟩
        | false =>
          have hle : le15 un W = k := by
            refine le15_at (by omega) HN.out (fun h => ?_)
            have := h
            rw [Htn.out]
            rw [ByteArray.toList_eq, ByteArray.toList_eq, less_cmp] at hbl
            simpa using hbl
          have Hle := hide hle
          clear hle
          go_wp2_with fail
          go_quiet (fail)
          all_goals
            have hb8 := below_drewN HB.out nq
            obtain ⟨w8, hw8⟩ : ∃ w8, wr.drewN nq = w8 := ⟨_, rfl⟩
            rw [hw8] at hb8 ⊢
            have HB8 := hide hb8
            clear hb8 hw8 c0 x0 q0 HB
            have b0 := (H07.out.below HB8.out).c 0 (v := .slice (some ⟨b, o, none⟩) n c) rfl
            have hcop := copy15_any (some ⟨b, o, none⟩) n c W w w8 (below_then HB7.out HB7.out.size HB8.out) HW0.out (by omega) ho.n64
            have Hcop := hide hcop
            clear hcop
            go_wp2_with fail
            refine Hcop.out.mono ?_
            rintro e w9 hco
            obtain ⟨A', c', xs, rfl, hcp, hb9⟩ := hco
            have hal := (Below.refl w9.heap.size w9).alloc (Nat.le_refl _) (.cells #[.slice A' n c'] 73)
            have nb := Blk.new w9 #[.slice A' n c'] 73
            have hcp10 := hcp.below hal
            have hb89 : Below w8.heap.size w8 w9 := hb9
            have hb79 := below_then HB8.out HB8.out.size hb89
            have hb710 := below_then hb79 hb79.size hal
            obtain ⟨w10, hw10⟩ : ∃ w10, w9.alloc (.cells #[.slice A' n c'] 73) = w10 := ⟨_, rfl⟩
            have hz10 : w10.heap.size = w9.heap.size + 1 := by rw [← hw10]; simp
            rw [hw10] at nb hcp10 hb710 hal
            have z0 := nb.c 0 (v := .slice A' n c') rfl
            have hRd := Rd.of_own hcp10.own
            have hxl := own_len hcp10.own
            have hcap : n ≤ c' := by
              obtain ⟨_, _, e, h5, _⟩ := own_form hcp10.own
              injection e with _ _ e
              omega
            have hptr : (A' = none ∧ n = 0 ∧ c' = 0) ∨ ∃ g, A' = some ⟨g, 0, none⟩ := by
              rcases hcp10.own.2 with ⟨h1, h2⟩ | ⟨g, _, _, h1, _⟩
              · injection h1 with h1 h3 h4
                exact .inl ⟨h1, h3, h4⟩
              injection h1 with h1
              exact .inr ⟨g, h1⟩
            have hels10 := hcp10.els Hl.out ((below_then HB7.out HB7.out.size hb710)) (fun b hb => Nat.lt_of_lt_of_le (HFo.out b hb) (below_then HB7.out HB7.out.size HB8.out).size)
            have HE1 := hide (tab_one _ _ (hels10.take k))
            have HE2 := hide (tab_one _ _ (hels10.drop k))
            have hki1 : (k : Int) ≤ (n : Int) := by omega
            have hki2 : (n : Int) ≤ (c' : Int) := by omega
            have hki3 : (k : Int) ≤ (c' : Int) := by omega
            have hkc : k ≤ c' := by omega
            have hk0 : (0 : Int) ≤ (k : Int) := by omega
            have HRd := hide hRd
            have Hxl := hide hxl
            have HCp := hide hcp
            have Hhal := hide hal
            have Hb79 := hide hb79
            have Hb710 := hide hb710
            have Nb := hide nb
            have Hz10 := hide hz10
            have Z0 := hide z0
            have Hkn : Hid (k ≤ n) := hide (by omega)
            have hzT : w.heap.size + 1 + 1 < w9.heap.size := by
              have h1 := Hz.out
              have h2 := HZ7.out
              have h3 := Hb79.out.size
              omega
            clear hels10 hcp10 hcp hb9 hb89 b0 Hcop hRd hxl hal hb79 hb710 nb hz10
            rcases hptr with ⟨rfl, rfl, rfl⟩ | ⟨g, rfl⟩
            · exact absurd hlt (by omega)
            have hRt : Rd w10 4 (some ⟨g, 0, none⟩) k (xs.take (k * 4)) := by
              refine ⟨by rw [List.length_take, Hxl.out]; have := Hkn.out; omega, ?_⟩
              rcases HRd.out.2 with h | ⟨b', o', hA, hc⟩
              · exact .inl (by omega)
              exact .inr ⟨b', o', hA, fun q hq => by
                rw [List.length_take] at hq
                rw [List.getElem?_take, if_pos (by omega)]
                exact hc q (by omega)⟩
            have hRt2 : Rd w10 4 (some ⟨g, k * 4, none⟩) (n - k) (xs.drop (k * 4)) := by
              have hl2 : (xs.drop (k * 4)).length = (n - k) * 4 := by rw [List.length_drop, Hxl.out]; have := Hkn.out; omega
              rcases HRd.out.2 with h | ⟨b', o', hA, hc⟩
              · exact ⟨hl2, .inl (by omega)⟩
              injection hA with hA
              injection hA with e1 e2 _
              subst e1 e2
              exact ⟨hl2, .inr ⟨g, k * 4, rfl, fun j hj => by
                  rw [List.getElem?_drop]
                  rw [hl2] at hj
                  have := hc (k * 4 + j) (by have h9 := Hxl.out; have h8 := Hkn.out; omega)
                  rwa [Nat.zero_add] at this⟩⟩
            have HRt := hide hRt
            have HRt2 := hide hRt2
            clear hRt hRt2
            have z0 := Z0.out
            go_wp2_with (first
              | (at_builtin; refine wp_app (base := w10.heap.size) (n := 0) (xs := []) tabT rfl rfl (World.ownsRow_nil _ _ _ _) rfl HRt.out rfl HE1.out (by omega) (by omega) (Nat.le_refl _) ?_; intro A11 c11 w11 hown11 hb11 hg11 hat11; rw [Nat.zero_add, List.nil_append] at hown11; try simp only [Nat.zero_add]; have n11 := H17.out.below (below_then Hb710.out Hb710.out.size hb11); have p0 := n11.c 0 (v := .string un) rfl; have p1 := n11.c 1 (v := .slice CB cn dc) rfl; have p2 := n11.c 2 (v := .slice XB xn yc) rfl; have z11 := Z0.out.below hb11)
              | (at_builtin; refine wp_lit (base := w10.heap.size) (n := k) (xs := xs.take (k * 4)) tabT rfl rfl hown11 rfl (cs := #[.string un, .slice CB cn dc, .slice XB xn yc, .slice none 0 0]) (m := 1) rfl rfl rfl (by intro u hu; simp only [List.mem_cons, List.mem_nil_iff, or_false] at hu; rcases hu with rfl | rfl | rfl | rfl <;> rfl) (by omega) (by omega) hb11.size ?_; intro A12 c12 w12 hown12 hb12 hg12;  have hb1012 := hb11.trans hb12; have z12 := Z0.out.below hb1012)
              | (at_builtin; refine wp_app (base := w10.heap.size) tabT rfl rfl hown12 rfl (HRt2.out.below hb1012) rfl HE2.out (by omega) (by omega) hb1012.size ?_; intro A13 c13 w13 hown13 hb13 hg13 hat13;  have hb1013 := hb1012.trans hb13; have u13 := Nb.out.below hb1013; have z13 := u13.c 0 (v := .slice (some ⟨g, 0, none⟩) n c') rfl; have f13 := u13.fr 0; have u14 := u13.set 0 (.slice A13 (k + 1 + (n - k)) c13); have z14 := u14.c 0 (v := (.slice A13 (k + 1 + (n - k)) c13)) rfl; have t13 := (H27.out.below (below_then Hb710.out Hb710.out.size hb1013)).set_other (a := ⟨w9.heap.size, 0, none⟩) (by show w.heap.size + 1 + 1 ≠ w9.heap.size; omega) (.slice A13 (k + 1 + (n - k)) c13); have d14 := t13.c 0 (v := .slice none 0 0) rfl; have g14 := t13.fr 0; have r15 := (t13.set 0 (.slice A13 (k + 1 + (n - k)) c13)).c 0 (v := (.slice A13 (k + 1 + (n - k)) c13)) rfl)
              | fail)
            all_goals
              refine bodyPost_ret (v := .tuple #[.agg #[(.slice A13 (k + 1 + (n - k)) c13)], .int .i64 0]) (by simp [results, Tryz.results76, go_sem, r15]) rfl ?_
              have hb9F : Below w9.heap.size w9 (w13.setCell ⟨w9.heap.size, 0, none⟩ (.slice A13 (k + 1 + (n - k)) c13)) := (below_then Hhal.out Hhal.out.size hb1013).setCell (p := ⟨w9.heap.size, 0, none⟩) (Nat.le_refl _) _
              have hb7F := below_then Hb79.out Hb79.out.size hb9F
              have hbF : Below w.heap.size w ((w13.setCell ⟨w9.heap.size, 0, none⟩ (.slice A13 (k + 1 + (n - k)) c13)).setCell ⟨w.heap.size + 1 + 1, 0, none⟩ (.slice A13 (k + 1 + (n - k)) c13)) := (below_then HB7.out HB7.out.size hb7F).setCell (p := ⟨w.heap.size + 1 + 1, 0, none⟩) (by show w.heap.size ≤ w.heap.size + 1 + 1; omega) _
              have hTW : w.heap.size + 1 + 1 < W1.heap.size := by have := Hz.out; omega
              have hFW : ∀ b, F b → b < W1.heap.size := fun b hb => by have h1 := HFo.out b hb; have h2 := Hz.out; omega
              have hcpF := (HCp.out.below hb9F).set (a := ⟨w.heap.size + 1 + 1, 0, none⟩) (by have h1 := Hz.out; have h2 := HZ7.out; have h3 := HB8.out.size; show w.heap.size + 1 + 1 < w8.heap.size; omega) (.slice A13 (k + 1 + (n - k)) c13)
              have helsF := hcpF.els Hl.out hbF (fun b hb => Nat.lt_of_lt_of_le (HFo.out b hb) (below_then HB7.out HB7.out.size HB8.out).size)
              have hCBF := own_set (own_below HCB7.out hb7F) (a := ⟨w.heap.size + 1 + 1, 0, none⟩) hTW (.slice A13 (k + 1 + (n - k)) c13)
              have hXBF := own_set (own_below HXB7.out hb7F) (a := ⟨w.heap.size + 1 + 1, 0, none⟩) hTW (.slice A13 (k + 1 + (n - k)) c13)
              have hownF := own_set (own_set hown13 (a := ⟨w9.heap.size, 0, none⟩) (by show w9.heap.size < w10.heap.size; rw [Hz10.out]; omega) (.slice A13 (k + 1 + (n - k)) c13)) (a := ⟨w.heap.size + 1 + 1, 0, none⟩) (by show w.heap.size + 1 + 1 < w10.heap.size; rw [Hz10.out]; omega) (.slice A13 (k + 1 + (n - k)) c13)
              have hcl : cn ≤ dc := by
                obtain ⟨_, _, e, h5, _⟩ := own_form hCBF
                injection e with _ _ e
                omega
              have hxl2 : xn ≤ yc := by
                obtain ⟨_, _, e, h5, _⟩ := own_form hXBF
                injection e with _ _ e
                omega
              have htab : TabR F ((w13.setCell ⟨w9.heap.size, 0, none⟩ (.slice A13 (k + 1 + (n - k)) c13)).setCell ⟨w.heap.size + 1 + 1, 0, none⟩ (.slice A13 (k + 1 + (n - k)) c13)) ⟨s, []⟩ [.string un, .slice CB cn dc, .slice XB xn yc, .slice none 0 0] :=
                ⟨CB, dc, XB, yc, none, 0, by rw [← Hun.out, ← Hcn.out, ← Hxn.out]; rfl, by rw [Hcn.out]; exact hcl, by rw [Hxn.out]; exact hxl2, Nat.le_refl _, by rw [Hcn.out]; exact ⟨Rd.of_own hCBF, own_nf hCBF hFW⟩, by rw [Hxn.out]; exact ⟨Rd.of_own hXBF, own_nf hXBF hFW⟩, [], ⟨Rd.nil _ _ _, .inl rfl⟩, rfl, fun j r hr => by simp at hr⟩
              have hEl := ((helsF.take k).append (Els.one (x := (⟨s, []⟩ : Tb)) rfl htab)).append (helsF.drop k)
              refine ⟨A13, (k + 1 + (n - k)), c13, rfl, ?_, hbF⟩
              rw [Hun.out, Hle.out]
              rw [show W.take k ++ (⟨s, []⟩ : Tb) :: W.drop k = (W.take k ++ [⟨s, []⟩]) ++ W.drop k by simp]
              refine ⟨by rw [List.length_append, List.length_append, List.length_take, List.length_drop, Hl.out]; have := Hkn.out; simp; try omega, _, ⟨Rd.of_own hownF, own_nf hownF (fun b hb => by have q1 := HFo.out b hb; have q2 := Hz.out; have q3 := HZ7.out; have q4 := Hb79.out.size; have q5 := Hz10.out; omega)⟩, hEl⟩
      have hke : k = n := by omega
      subst hke
      have hle : le15 un W = k := le15_end Hl.out HN.out
      have Hle := hide hle
      have hki : ¬ (k : Int) < (k : Int) := by omega
      clear hle
      go_wp2_with fail
      go_quiet (fail)
      all_goals
        have hb8 := below_drewN HB.out nq
        obtain ⟨w8, hw8⟩ : ∃ w8, wr.drewN nq = w8 := ⟨_, rfl⟩
        rw [hw8] at hb8 ⊢
        have HB8 := hide hb8
        clear hb8 hw8 c0 HB
        have b0 := (H07.out.below HB8.out).c 0 (v := .slice A k c) rfl
        have hcop := copy15_any A k c W w w8 (below_then HB7.out HB7.out.size HB8.out) HW0.out (by omega) ho.n64
        have Hcop := hide hcop
        clear hcop
        go_wp2_with fail
        refine Hcop.out.mono ?_
        rintro e w9 hco
        obtain ⟨A', c', xs, rfl, hcp, hb9⟩ := hco
        have hal := (Below.refl w9.heap.size w9).alloc (Nat.le_refl _) (.cells #[.slice A' k c'] 73)
        have nb := Blk.new w9 #[.slice A' k c'] 73
        have hcp10 := hcp.below hal
        have hb89 : Below w8.heap.size w8 w9 := hb9
        have hb79 := below_then HB8.out HB8.out.size hb89
        have hb710 := below_then hb79 hb79.size hal
        obtain ⟨w10, hw10⟩ : ∃ w10, w9.alloc (.cells #[.slice A' k c'] 73) = w10 := ⟨_, rfl⟩
        have hz10 : w10.heap.size = w9.heap.size + 1 := by rw [← hw10]; simp
        rw [hw10] at nb hcp10 hb710 hal
        have z0 := nb.c 0 (v := .slice A' k c') rfl
        have hRd := Rd.of_own hcp10.own
        have hxl := own_len hcp10.own
        have hcap : k ≤ c' := by
          obtain ⟨_, _, e, h5, _⟩ := own_form hcp10.own
          injection e with _ _ e
          omega
        have hptr : (A' = none ∧ k = 0 ∧ c' = 0) ∨ ∃ g, A' = some ⟨g, 0, none⟩ := by
          rcases hcp10.own.2 with ⟨h1, h2⟩ | ⟨g, _, _, h1, _⟩
          · injection h1 with h1 h3 h4
            exact .inl ⟨h1, h3, h4⟩
          injection h1 with h1
          exact .inr ⟨g, h1⟩
        have hels10 := hcp10.els Hl.out ((below_then HB7.out HB7.out.size hb710)) (fun b hb => Nat.lt_of_lt_of_le (HFo.out b hb) (below_then HB7.out HB7.out.size HB8.out).size)
        have HE1 := hide (tab_one _ _ (hels10.take k))
        have HE2 := hide (tab_one _ _ (hels10.drop k))
        have hki1 : (k : Int) ≤ (k : Int) := by omega
        have hki2 : (k : Int) ≤ (c' : Int) := by omega
        have hki3 : (k : Int) ≤ (c' : Int) := by omega
        have hkc : k ≤ c' := by omega
        have hk0 : (0 : Int) ≤ (k : Int) := by omega
        have HRd := hide hRd
        have Hxl := hide hxl
        have HCp := hide hcp
        have Hhal := hide hal
        have Hb79 := hide hb79
        have Hb710 := hide hb710
        have Nb := hide nb
        have Hz10 := hide hz10
        have Z0 := hide z0
        have Hkn : Hid (k ≤ k) := hide (by omega)
        have hzT : w.heap.size + 1 + 1 < w9.heap.size := by
          have h1 := Hz.out
          have h2 := HZ7.out
          have h3 := Hb79.out.size
          omega
        clear hels10 hcp10 hcp hb9 hb89 b0 Hcop hRd hxl hal hb79 hb710 nb hz10
        rcases hptr with ⟨rfl, rfl, rfl⟩ | ⟨g, rfl⟩
        · have hRt : Rd w10 4 none 0 (xs.take (0 * 4)) := Rd.nil _ _ _
          have hRt2 : True := trivial
          subst hw10
          have HRt := hide hRt
          have HRt2 := hide hRt2
          clear hRt hRt2
          have z0 := Z0.out
          go_wp2_with (first
            | (at_builtin; refine wp_app (base := (w9.alloc (.cells #[.slice none 0 0] 73)).heap.size) (n := 0) (xs := []) tabT rfl rfl (World.ownsRow_nil _ _ _ _) rfl HRt.out rfl HE1.out (by omega) (by omega) (Nat.le_refl _) ?_; intro A11 c11 w11 hown11 hb11 hg11 hat11; rw [Nat.zero_add, List.nil_append] at hown11; try simp only [Nat.zero_add]; have n11 := H17.out.below (below_then Hb710.out Hb710.out.size hb11); have p0 := n11.c 0 (v := .string un) rfl; have p1 := n11.c 1 (v := .slice CB cn dc) rfl; have p2 := n11.c 2 (v := .slice XB xn yc) rfl; have z11 := Z0.out.below hb11)
            | (at_builtin; refine wp_lit (base := (w9.alloc (.cells #[.slice none 0 0] 73)).heap.size) (n := 0) (xs := xs.take (0 * 4)) tabT rfl rfl hown11 rfl (cs := #[.string un, .slice CB cn dc, .slice XB xn yc, .slice none 0 0]) (m := 1) rfl rfl rfl (by intro u hu; simp only [List.mem_cons, List.mem_nil_iff, or_false] at hu; rcases hu with rfl | rfl | rfl | rfl <;> rfl) (by omega) (by omega) hb11.size ?_; intro A12 c12 w12 hown12 hb12 hg12; rw [Nat.zero_add] at hown12; try simp only [Nat.zero_add]; have hb1012 := hb11.trans hb12; have z12 := Z0.out.below hb1012)
            | (at_builtin; refine wp_app (base := (w9.alloc (.cells #[.slice none 0 0] 73)).heap.size) tabT rfl rfl hown12 rfl (news := []) (Rd.nil _ _ _) rfl (by simp) (by omega) (by omega) hb1012.size ?_; intro A13 c13 w13 hown13 hb13 hg13 hat13; rw [Nat.add_zero, List.append_nil] at hown13; try simp only [Nat.add_zero]; have hb1013 := hb1012.trans hb13; have u13 := Nb.out.below hb1013; have z13 := u13.c 0 (v := .slice none 0 0) rfl; have f13 := u13.fr 0; have u14 := u13.set 0 (.slice A13 1 c13); have z14 := u14.c 0 (v := (.slice A13 1 c13)) rfl; have t13 := (H27.out.below (below_then Hb710.out Hb710.out.size hb1013)).set_other (a := ⟨w9.heap.size, 0, none⟩) (by show w.heap.size + 1 + 1 ≠ w9.heap.size; omega) (.slice A13 1 c13); have d14 := t13.c 0 (v := .slice none 0 0) rfl; have g14 := t13.fr 0; have r15 := (t13.set 0 (.slice A13 1 c13)).c 0 (v := (.slice A13 1 c13)) rfl)
            | fail)
          all_goals
            refine bodyPost_ret (v := .tuple #[.agg #[(.slice A13 1 c13)], .int .i64 0]) (by simp [results, Tryz.results76, go_sem, r15]) rfl ?_
            have hb9F : Below w9.heap.size w9 (w13.setCell ⟨w9.heap.size, 0, none⟩ (.slice A13 1 c13)) := (below_then Hhal.out Hhal.out.size hb1013).setCell (p := ⟨w9.heap.size, 0, none⟩) (Nat.le_refl _) _
            have hb7F := below_then Hb79.out Hb79.out.size hb9F
            have hbF : Below w.heap.size w ((w13.setCell ⟨w9.heap.size, 0, none⟩ (.slice A13 1 c13)).setCell ⟨w.heap.size + 1 + 1, 0, none⟩ (.slice A13 1 c13)) := (below_then HB7.out HB7.out.size hb7F).setCell (p := ⟨w.heap.size + 1 + 1, 0, none⟩) (by show w.heap.size ≤ w.heap.size + 1 + 1; omega) _
            have hTW : w.heap.size + 1 + 1 < W1.heap.size := by have := Hz.out; omega
            have hFW : ∀ b, F b → b < W1.heap.size := fun b hb => by have h1 := HFo.out b hb; have h2 := Hz.out; omega
            have hcpF := (HCp.out.below hb9F).set (a := ⟨w.heap.size + 1 + 1, 0, none⟩) (by have h1 := Hz.out; have h2 := HZ7.out; have h3 := HB8.out.size; show w.heap.size + 1 + 1 < w8.heap.size; omega) (.slice A13 1 c13)
            have helsF := hcpF.els Hl.out hbF (fun b hb => Nat.lt_of_lt_of_le (HFo.out b hb) (below_then HB7.out HB7.out.size HB8.out).size)
            have hCBF := own_set (own_below HCB7.out hb7F) (a := ⟨w.heap.size + 1 + 1, 0, none⟩) hTW (.slice A13 1 c13)
            have hXBF := own_set (own_below HXB7.out hb7F) (a := ⟨w.heap.size + 1 + 1, 0, none⟩) hTW (.slice A13 1 c13)
            have hownF := own_set (own_set hown13 (a := ⟨w9.heap.size, 0, none⟩) (by show w9.heap.size < (w9.alloc (.cells #[.slice none 0 0] 73)).heap.size; rw [Hz10.out]; omega) (.slice A13 1 c13)) (a := ⟨w.heap.size + 1 + 1, 0, none⟩) (by show w.heap.size + 1 + 1 < (w9.alloc (.cells #[.slice none 0 0] 73)).heap.size; rw [Hz10.out]; omega) (.slice A13 1 c13)
            have hcl : cn ≤ dc := by
              obtain ⟨_, _, e, h5, _⟩ := own_form hCBF
              injection e with _ _ e
              omega
            have hxl2 : xn ≤ yc := by
              obtain ⟨_, _, e, h5, _⟩ := own_form hXBF
              injection e with _ _ e
              omega
            have htab : TabR F ((w13.setCell ⟨w9.heap.size, 0, none⟩ (.slice A13 1 c13)).setCell ⟨w.heap.size + 1 + 1, 0, none⟩ (.slice A13 1 c13)) ⟨s, []⟩ [.string un, .slice CB cn dc, .slice XB xn yc, .slice none 0 0] :=
              ⟨CB, dc, XB, yc, none, 0, by rw [← Hun.out, ← Hcn.out, ← Hxn.out]; rfl, by rw [Hcn.out]; exact hcl, by rw [Hxn.out]; exact hxl2, Nat.le_refl _, by rw [Hcn.out]; exact ⟨Rd.of_own hCBF, own_nf hCBF hFW⟩, by rw [Hxn.out]; exact ⟨Rd.of_own hXBF, own_nf hXBF hFW⟩, [], ⟨Rd.nil _ _ _, .inl rfl⟩, rfl, fun j r hr => by simp at hr⟩
            have hEl := (helsF.take 0).append (Els.one (x := (⟨s, []⟩ : Tb)) rfl htab)
            refine ⟨A13, 1, c13, rfl, ?_, hbF⟩
            rw [Hun.out, Hle.out]
            rw [show W.drop 0 = [] from List.drop_of_length_le (by rw [Hl.out]; exact Nat.le_refl _)]
            refine ⟨by rw [List.length_append, List.length_take, Hl.out]; simp, _, ⟨Rd.of_own hownF, own_nf hownF (fun b hb => by have q1 := HFo.out b hb; have q2 := Hz.out; have q3 := HZ7.out; have q4 := Hb79.out.size; have q5 := Hz10.out; omega)⟩, hEl⟩
        have hRt : Rd w10 4 (some ⟨g, 0, none⟩) k (xs.take (k * 4)) := by
          refine ⟨by rw [List.length_take, Hxl.out]; have := Hkn.out; omega, ?_⟩
          rcases HRd.out.2 with h | ⟨b', o', hA, hc⟩
          · exact .inl (by omega)
          exact .inr ⟨b', o', hA, fun q hq => by
            rw [List.length_take] at hq
            rw [List.getElem?_take, if_pos (by omega)]
            exact hc q (by omega)⟩
        have hRt2 : True := trivial
        have HRt := hide hRt
        have HRt2 := hide hRt2
        clear hRt hRt2
        have z0 := Z0.out
        go_wp2_with (first
          | (at_builtin; refine wp_app (base := w10.heap.size) (n := 0) (xs := []) tabT rfl rfl (World.ownsRow_nil _ _ _ _) rfl HRt.out rfl HE1.out (by omega) (by omega) (Nat.le_refl _) ?_; intro A11 c11 w11 hown11 hb11 hg11 hat11; rw [Nat.zero_add, List.nil_append] at hown11; try simp only [Nat.zero_add]; have n11 := H17.out.below (below_then Hb710.out Hb710.out.size hb11); have p0 := n11.c 0 (v := .string un) rfl; have p1 := n11.c 1 (v := .slice CB cn dc) rfl; have p2 := n11.c 2 (v := .slice XB xn yc) rfl; have z11 := Z0.out.below hb11)
          | (at_builtin; refine wp_lit (base := w10.heap.size) (n := k) (xs := xs.take (k * 4)) tabT rfl rfl hown11 rfl (cs := #[.string un, .slice CB cn dc, .slice XB xn yc, .slice none 0 0]) (m := 1) rfl rfl rfl (by intro u hu; simp only [List.mem_cons, List.mem_nil_iff, or_false] at hu; rcases hu with rfl | rfl | rfl | rfl <;> rfl) (by omega) (by omega) hb11.size ?_; intro A12 c12 w12 hown12 hb12 hg12;  have hb1012 := hb11.trans hb12; have z12 := Z0.out.below hb1012)
          | (at_builtin; refine wp_app (base := w10.heap.size) tabT rfl rfl hown12 rfl (news := []) (Rd.nil _ _ _) rfl (by simp) (by omega) (by omega) hb1012.size ?_; intro A13 c13 w13 hown13 hb13 hg13 hat13; rw [Nat.add_zero, List.append_nil] at hown13; try simp only [Nat.add_zero]; have hb1013 := hb1012.trans hb13; have u13 := Nb.out.below hb1013; have z13 := u13.c 0 (v := .slice (some ⟨g, 0, none⟩) k c') rfl; have f13 := u13.fr 0; have u14 := u13.set 0 (.slice A13 (k + 1) c13); have z14 := u14.c 0 (v := (.slice A13 (k + 1) c13)) rfl; have t13 := (H27.out.below (below_then Hb710.out Hb710.out.size hb1013)).set_other (a := ⟨w9.heap.size, 0, none⟩) (by show w.heap.size + 1 + 1 ≠ w9.heap.size; omega) (.slice A13 (k + 1) c13); have d14 := t13.c 0 (v := .slice none 0 0) rfl; have g14 := t13.fr 0; have r15 := (t13.set 0 (.slice A13 (k + 1) c13)).c 0 (v := (.slice A13 (k + 1) c13)) rfl)
          | fail)
        all_goals
          refine bodyPost_ret (v := .tuple #[.agg #[(.slice A13 (k + 1) c13)], .int .i64 0]) (by simp [results, Tryz.results76, go_sem, r15]) rfl ?_
          have hb9F : Below w9.heap.size w9 (w13.setCell ⟨w9.heap.size, 0, none⟩ (.slice A13 (k + 1) c13)) := (below_then Hhal.out Hhal.out.size hb1013).setCell (p := ⟨w9.heap.size, 0, none⟩) (Nat.le_refl _) _
          have hb7F := below_then Hb79.out Hb79.out.size hb9F
          have hbF : Below w.heap.size w ((w13.setCell ⟨w9.heap.size, 0, none⟩ (.slice A13 (k + 1) c13)).setCell ⟨w.heap.size + 1 + 1, 0, none⟩ (.slice A13 (k + 1) c13)) := (below_then HB7.out HB7.out.size hb7F).setCell (p := ⟨w.heap.size + 1 + 1, 0, none⟩) (by show w.heap.size ≤ w.heap.size + 1 + 1; omega) _
          have hTW : w.heap.size + 1 + 1 < W1.heap.size := by have := Hz.out; omega
          have hFW : ∀ b, F b → b < W1.heap.size := fun b hb => by have h1 := HFo.out b hb; have h2 := Hz.out; omega
          have hcpF := (HCp.out.below hb9F).set (a := ⟨w.heap.size + 1 + 1, 0, none⟩) (by have h1 := Hz.out; have h2 := HZ7.out; have h3 := HB8.out.size; show w.heap.size + 1 + 1 < w8.heap.size; omega) (.slice A13 (k + 1) c13)
          have helsF := hcpF.els Hl.out hbF (fun b hb => Nat.lt_of_lt_of_le (HFo.out b hb) (below_then HB7.out HB7.out.size HB8.out).size)
          have hCBF := own_set (own_below HCB7.out hb7F) (a := ⟨w.heap.size + 1 + 1, 0, none⟩) hTW (.slice A13 (k + 1) c13)
          have hXBF := own_set (own_below HXB7.out hb7F) (a := ⟨w.heap.size + 1 + 1, 0, none⟩) hTW (.slice A13 (k + 1) c13)
          have hownF := own_set (own_set hown13 (a := ⟨w9.heap.size, 0, none⟩) (by show w9.heap.size < w10.heap.size; rw [Hz10.out]; omega) (.slice A13 (k + 1) c13)) (a := ⟨w.heap.size + 1 + 1, 0, none⟩) (by show w.heap.size + 1 + 1 < w10.heap.size; rw [Hz10.out]; omega) (.slice A13 (k + 1) c13)
          have hcl : cn ≤ dc := by
            obtain ⟨_, _, e, h5, _⟩ := own_form hCBF
            injection e with _ _ e
            omega
          have hxl2 : xn ≤ yc := by
            obtain ⟨_, _, e, h5, _⟩ := own_form hXBF
            injection e with _ _ e
            omega
          have htab : TabR F ((w13.setCell ⟨w9.heap.size, 0, none⟩ (.slice A13 (k + 1) c13)).setCell ⟨w.heap.size + 1 + 1, 0, none⟩ (.slice A13 (k + 1) c13)) ⟨s, []⟩ [.string un, .slice CB cn dc, .slice XB xn yc, .slice none 0 0] :=
            ⟨CB, dc, XB, yc, none, 0, by rw [← Hun.out, ← Hcn.out, ← Hxn.out]; rfl, by rw [Hcn.out]; exact hcl, by rw [Hxn.out]; exact hxl2, Nat.le_refl _, by rw [Hcn.out]; exact ⟨Rd.of_own hCBF, own_nf hCBF hFW⟩, by rw [Hxn.out]; exact ⟨Rd.of_own hXBF, own_nf hXBF hFW⟩, [], ⟨Rd.nil _ _ _, .inl rfl⟩, rfl, fun j r hr => by simp at hr⟩
          have hEl := (helsF.take k).append (Els.one (x := (⟨s, []⟩ : Tb)) rfl htab)
          refine ⟨A13, (k + 1), c13, rfl, ?_, hbF⟩
          rw [Hun.out, Hle.out]
          rw [show W.drop k = [] from List.drop_of_length_le (by rw [Hl.out]; exact Nat.le_refl _)]
          refine ⟨by rw [List.length_append, List.length_take, Hl.out]; simp, _, ⟨Rd.of_own hownF, own_nf hownF (fun b hb => by have q1 := HFo.out b hb; have q2 := Hz.out; have q3 := HZ7.out; have q4 := Hb79.out.size; have q5 := Hz10.out; omega)⟩, hEl⟩
end Go.Proofs.YtekokogmnhlchaaGreatDoor
