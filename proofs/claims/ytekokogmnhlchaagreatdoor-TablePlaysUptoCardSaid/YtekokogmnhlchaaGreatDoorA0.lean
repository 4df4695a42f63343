import Derived.Test.YtekokogmnhlchaaGreatDoorA5
import Derived.Test.YtekokogmnhlchaaGreatDoorA6
import Derived.Deep.DeepCutAuto
import Derived.Deep.Cut
set_option linter.unusedSimpArgs false
set_option linter.unusedVariables false
set_option linter.unusedSectionVars false
namespace Go.Proofs.YtekokogmnhlchaaGreatDoor
open Go.RowKit
theorem right_small {s : Sch} (h : rightS s = true) : s.small := by
  have hf := right_facts h
  refine ⟨by have := name_size hf.nm; omega, fun c hc => ?_⟩
  have := name_size (colB_facts (hf.cs c hc)).1
  omega
theorem Rd.far {w w' : World} {k n b o N : Nat} {xs : List Value} {row : Option Nat} (h : Rd w k (some ⟨b, o, none⟩) n xs) (hg : w.grownBy w' row) (hrow : ∀ g, row = some g → g < N) (hb : N ≤ b) : Rd w' k (some ⟨b, o, none⟩) n xs := by
  refine ⟨h.1, ?_⟩
  rcases h.2 with h0 | ⟨b', o', hA, hc⟩
  · exact .inl h0
  cases hA
  refine .inr ⟨b, o, rfl, fun j hj => ?_⟩
  have hj' := hc j hj
  rw [List.getElem?_eq_getElem hj] at hj' ⊢
  have hlt := World.block_lt_of_cell? w _ hj'
  have hne : some b ≠ row := by
    intro he
    have := hrow b he.symm
    omega
  exact (hg.cell_far ⟨b, o + j, none⟩ hlt hne).trans hj'
theorem C.far {w w' : World} {b o N : Nat} {v : Value} {row : Option Nat} (h : C w b o v) (hg : w.grownBy w' row) (hrow : ∀ g, row = some g → g < N) (hb : N ≤ b) : C w' b o v := by
  have hne : some b ≠ row := by
    intro he
    have := hrow b he.symm
    omega
  exact (hg.cell_far ⟨b, o, none⟩ h.lt hne).trans h
theorem wrap_u8 (x : Int) (h0 : 0 ≤ x) (h1 : x < 256) : IntKind.u8.wrap x = x := by
  simp [IntKind.wrap, IntKind.bits, IntKind.signed]; omega
set_option maxHeartbeats 4000000 in
set_option maxRecDepth 1000000 in
theorem encode_ok (s : Sch) (sv : Value) (w : World) (h : SchV w s sv) (hr : rightS s = true) :
    Calls Tryz.prog 54 #[sv] w fun e w' => ∃ A c, e = .returned (.tuple #[.slice A (encS s).length c, .int .i64 0]) ∧ w'.ownsRow w.heap.size 5 1 (.slice A (encS s).length c) (encS s).length (bys (encS s)) ∧ Below w.heap.size w w' := by
  have hf := right_facts hr
  have hs := right_small hr
  obtain ⟨CA, cc, XA, xc, rfl, hc1, hc2, hC, hX⟩ := h
  have hrt := fun (W : World) (hb : Below w.heap.size w W) => rightS_any s (.agg #[.string s.name, .slice CA s.cols.length cc, .slice XA s.ixs.length xc]) W ⟨CA, cc, XA, xc, rfl, hc1, hc2, hC.below hb, hX.below hb⟩ hs
  rw [hr] at hrt
  obtain ⟨nm, cols, ixs⟩ := s
  obtain ⟨f1, f2, f3, f4, f5, f6⟩ := hf
  simp only at *
  obtain ⟨R, hR⟩ : ∃ R, encS ⟨nm, cols, ixs⟩ = R := ⟨_, rfl⟩
  rw [hR]
  obtain ⟨cn, hcn⟩ : ∃ m, cols.length = m := ⟨_, rfl⟩
  obtain ⟨xn, hxn⟩ : ∃ m, ixs.length = m := ⟨_, rfl⟩
  have hnsz := name_size f1
  have hR2 : encB nm ++ [UInt8.ofNat cn] ++ cols.flatMap encC ++ [UInt8.ofNat xn] ++ ixs.flatMap encX = R := by rw [← hR, encS, hcn, hxn]
  rw [hcn] at hC hrt f2 f3 f6 ⊢
  rw [hxn] at hX hrt f4 ⊢
  have HR := hide hR2
  have HC := hide hC
  have HX := hide hX
  have Hrt := hide hrt
  have F5 := hide f5
  have F6 := hide f6
  clear hR hR2 hC hX hrt hr hs hc1 hc2 f1 f5 f6
  have q0 := C.new w #[.string nm, .slice CA cn cc, .slice XA xn xc] 25 0 (v := .string nm) rfl
  have q1 := C.new w #[.string nm, .slice CA cn cc, .slice XA xn xc] 25 1 (v := .slice CA cn cc) rfl
  have q2 := C.new w #[.string nm, .slice CA cn cc, .slice XA xn xc] 25 2 (v := .slice XA xn xc) rfl
  go_enter Tryz.func54, Tryz.ntmps54
  go_wp2_with fail
  refine (Hrt.out _ ((Below.refl _ _).alloc (Nat.le_refl _) _)).mono ?_
  rintro e w1 ⟨rfl, hb⟩
  have p0 := q0.below hb
  have p1 := q1.below hb
  have p2 := q2.below hb
  have hb := below_chain ((Below.refl _ _).alloc (Nat.le_refl _) _) hb
  have Hb := hide hb
  have hsz := hb.size
  clear hb q0 q1 q2 Hrt
  obtain ⟨fc, fw, hcv, hfw⟩ := conv_rule nm
  have hw8 : IntKind.u8.wrap (cn : Int) = cn := by simp [IntKind.wrap, IntKind.bits, IntKind.signed]; omega
  obtain ⟨L, hL⟩ : ∃ L : Obj, L = .cells #[.int .u8 (cn : Int)] 5 := ⟨_, rfl⟩
  have hfin : Below w1.heap.size w1 (w1.alloc L).drew := ((Below.refl _ _).alloc (Nat.le_refl _) _).drew
  obtain ⟨hrbA, hbA0, _, hfsA⟩ := hfw w1.drew
  obtain ⟨hrbB, hbB0, _, hfsB⟩ := hfw (w1.alloc L).drew
  have hbA := undrewd hbA0
  have hbB := below_chain hfin hbB0
  have ra0 := p0.below hbA
  have ra1 := p1.below hbA
  have rb0 := p0.below hbB
  have rb1 := p1.below hbB
  have rc0 := p0.below hfin
  have rc1 := p1.below hfin
  subst hL
  have rd1 := ra1.alloc (.cells #[.int .u8 (cn : Int)] 5)
  have HlA := hide (Rd.lit (fw w1.drew) #[.int .u8 (cn : Int)] 5 1 1 _ rfl rfl)
  have HlB := hide (Rd.below (w := (w1.alloc (.cells #[.int .u8 (cn : Int)] 5)).drew) (Rd.lit w1 #[.int .u8 (cn : Int)] 5 1 1 _ rfl rfl) hbB0)
  have hbC := hbA.alloc hbA.size (.cells #[.int .u8 (cn : Int)] 5)
  have hszA : w.heap.size ≤ (fw w1.drew).heap.size := Nat.le_trans hsz hbA.size
  have hszC : w.heap.size ≤ ((fw w1.drew).alloc (.cells #[.int .u8 (cn : Int)] 5)).heap.size := Nat.le_trans hsz (hbA.alloc hbA.size _).size
  have hszB : w.heap.size ≤ (fw (w1.alloc (.cells #[.int .u8 (cn : Int)] 5)).drew).heap.size := Nat.le_trans hsz hbB.size
  rw [show (w1.alloc (.cells #[.int .u8 (cn : Int)] 5)).drew.heap.size = w1.heap.size + 1 by simp] at hrbB
  have Hfw := hide hfw
  clear hfw
  go_wp2_with fail
  go_cut [5] (fun b wx => ∃ A c, b = .slice A (1 + nm.size + 1) c ∧ Hid (wx.ownsRow w1.heap.size 5 1 (.slice A (1 + nm.size + 1) c) (1 + nm.size + 1) (bys (encB nm ++ [UInt8.ofNat cn]))) ∧ Hid (Below w1.heap.size w1 wx))
  case first =>
    go_region_law
      ((first
        | (refine step_call (f := 108) (by rfl) (by rfl) (by rfl) (by simp [go_sem]) (wbytes_any _ nm.size _ nm.data.toList _ (by first | exact hrbA | exact hrbA.alloc _ | exact hrbB) (by omega)) ?_; rintro e w3 ⟨A3, c3, rfl, hown3, hb3⟩; refine ⟨_, rfl, ?_⟩; have hb3' : Below w1.heap.size w1 w3 := (by first | exact below_chain hbA hb3 | exact below_chain (hbA.alloc hbA.size _) hb3 | exact below_chain hbB hb3); have t0 := p0.below hb3'; have t1 := p1.below hb3')
        | (refine step_app (base := w1.heap.size) (news := [.int .u8 (cn : Int)]) u8T (by rfl) (by rfl) (by first | exact own_mono hown3 hbB.size | exact own_mono hown3 hbC.size | exact (own_mono hown3 hbA.size).alloc _) (by rfl) (by first | exact Rd.of_own (World.ownsRow_lit (base := 0) w3 #[.int .u8 (cn : Int)] 1 (Nat.zero_le _) (by decide) rfl) | exact HlA.out.below hb3 | exact HlB.out.below hb3) (by rfl) (by simp [Value.oneCell']) (by omega) (by omega) (by first | exact hb3'.size | exact (hb3'.alloc hb3'.size _).size) ?_; intro A5 c5 w5 hown5 hb5 hg5 hat5)
        | fail))
    all_goals (try go_wp2_with fail)
    all_goals go_meet
    all_goals exact ⟨A5, c5, rfl, hide (by rw [bys_append]; show World.ownsRow _ _ _ _ _ _ (bys (UInt8.ofNat nm.size :: nm.data.toList) ++ [.int .u8 ((UInt8.ofNat cn).toNat : Int)]); rw [ofNat_cell, show ((cn : Int) % 256) = cn by omega]; exact hown5), hide (by first | exact hb3'.trans hb5 | exact (hb3'.alloc hb3'.size _).trans hb5)⟩
  case rest =>
    obtain ⟨A, c, rfl, HO, HB⟩ := hcut
    have p1c := p1.below HB.out
    clear hrbA hrbB hbA0 hbB0 hbA hbB hbC ra0 ra1 rb0 rb1 rc0 rc1 rd1 HlA HlB hszA hszB hszC Hfw hcv hfsA hfsB hfin p0 hw8
    have hlen0 : 1 + nm.size + 1 ≤ 10 := by omega
    have hlen1 : 1 + nm.size + 1 = (encB nm ++ [UInt8.ofNat cn]).length := by rw [List.length_append, encB_len]; rfl
    have Hlen1 := hide hlen1
    clear hlen1
    generalize 1 + nm.size + 1 = l0 at *
    go_wp2_with fail
    go_loopw [5, 29] (fun b i wr => ∃ (k len : Nat) (A : Option Addr) (c : Nat), k ≤ cn ∧ i = .int .i64 k ∧ b = .slice A len c ∧ Hid (len = (encB nm ++ [UInt8.ofNat cn] ++ (cols.take k).flatMap encC).length) ∧ Hid (wr.ownsRow w1.heap.size 5 1 (.slice A len c) len (bys (encB nm ++ [UInt8.ofNat cn] ++ (cols.take k).flatMap encC))) ∧ len ≤ 10 + 11 * k ∧ Hid (Below w1.heap.size w1 wr)) (fun _ i _ => cn - (intOf i).toNat)
    case atStart => exact ⟨0, l0, A, c, Nat.zero_le _, rfl, rfl, by simpa using Hlen1, by simpa using HO, by omega, HB⟩
    case round =>
      obtain ⟨k, len, A, c, hk, rfl, rfl, HLn, HO, hlen, HB⟩ := hrel
      have hbw := below_chain Hb.out HB.out
      by_cases hlt : k < cn
      · obtain ⟨b, o, rfl, hcc⟩ := (HC.out.below hbw).struct Col.cells_len cols hcn k (by omega)
        obtain ⟨x, hx⟩ : ∃ x, cols[k]'(by omega) = x := ⟨_, rfl⟩
        have hm : x ∈ cols := by rw [← hx]; exact List.getElem_mem _
        rw [hx] at hcc
        have ht : cols.take (k + 1) = cols.take k ++ [x] := by rw [← hx]; simp
        have hcf := colB_facts (F5.out x hm)
        obtain ⟨s, ck, cm⟩ := x
        obtain ⟨g1, g2, g3, g4, g5⟩ := hcf
        simp only at g1 g2 g3 g4 g5
        have hss := name_size g1
        have e0 : C wr b (o + k * 3) (.string s) := hcc 0 (by omega)
        have e1 : C wr b (o + k * 3 + 1) (.int .i64 ck) := hcc 1 (by omega)
        have e2 : C wr b (o + k * 3 + 2) (.int .i64 cm) := hcc 2 (by omega)
        have hto : (cols.take (k + 1)).flatMap encC = (cols.take k).flatMap encC ++ encB s ++ [UInt8.ofNat ck.toNat, UInt8.ofNat cm.toNat] := by
          rw [ht]; simp [encC]
        have Hto := hide hto
        clear hcc hx ht g1 hto hm
        obtain ⟨fc, fw, hcv, hfw⟩ := conv_rule s
        have hk8 := wrap_u8 ck (by omega) (by omega)
        have hm8 := wrap_u8 cm (by omega) (by omega)
        obtain ⟨W0, hW0⟩ : ∃ W0, W0 = wr.alloc (.cells #[.string s, .int .i64 ck, .int .i64 cm] 49) := ⟨_, rfl⟩
        have q0 : C W0 wr.heap.size 0 (.string s) := by rw [hW0]; exact C.new wr #[.string s, .int .i64 ck, .int .i64 cm] 49 0 rfl
        have q1 : C W0 wr.heap.size 1 (.int .i64 ck) := by rw [hW0]; exact C.new wr #[.string s, .int .i64 ck, .int .i64 cm] 49 1 rfl
        have q2 : C W0 wr.heap.size 2 (.int .i64 cm) := by rw [hW0]; exact C.new wr #[.string s, .int .i64 ck, .int .i64 cm] 49 2 rfl
        have hW : Below wr.heap.size wr W0 := by rw [hW0]; exact (Below.refl _ _).alloc (Nat.le_refl _) _
        have hfin : Below W0.heap.size W0 (W0.alloc (.cells #[.int .u8 ck, .int .u8 cm] 5)).drew := ((Below.refl _ _).alloc (Nat.le_refl _) _).drew
        obtain ⟨hrbA, hbA0, _, hfsA⟩ := hfw W0.drew
        obtain ⟨hrbB, hbB0, _, hfsB⟩ := hfw (W0.alloc (.cells #[.int .u8 ck, .int .u8 cm] 5)).drew
        have hbA := undrewd hbA0
        have hbB := below_chain hfin hbB0
        have qa0 := q0.below hbA
        have qa1 := q1.below hbA
        have qa2 := q2.below hbA
        have qb0 := q0.below hbB
        have qb1 := q1.below hbB
        have qb2 := q2.below hbB
        have qc0 := q0.below hfin
        have qc1 := q1.below hfin
        have qc2 := q2.below hfin
        have qd1 := qa1.alloc (.cells #[.int .u8 ck, .int .u8 cm] 5)
        have qd2 := qa2.alloc (.cells #[.int .u8 ck, .int .u8 cm] 5)
        have HlA := hide (Rd.lit (fw W0.drew) #[.int .u8 ck, .int .u8 cm] 5 1 2 _ rfl rfl)
        have HlB := hide (Rd.below (w := (W0.alloc (.cells #[.int .u8 ck, .int .u8 cm] 5)).drew) (Rd.lit W0 #[.int .u8 ck, .int .u8 cm] 5 1 2 _ rfl rfl) hbB0)
        have hbC := hbA.alloc hbA.size (.cells #[.int .u8 ck, .int .u8 cm] 5)
        rw [show (W0.alloc (.cells #[.int .u8 ck, .int .u8 cm] 5)).drew.heap.size = W0.heap.size + 1 by simp] at hrbB
        have hrow : ∀ g, (Value.slice A len c).ownBlock = some g → g < wr.heap.size := fun g hg => (HO.out.lt g hg).2
        have Hfw := hide hfw
        clear hfw
        have HW0s : Hid (W0.heap.size = wr.heap.size + 1) := hide (by rw [hW0]; simp)
        have hsum : len + (1 + s.size) + 2 = (encB nm ++ [UInt8.ofNat cn] ++ (cols.take (k + 1)).flatMap encC).length := by
          rw [Hto.out]
          have := HLn.out
          simp only [List.length_append, encB_len, List.length_cons, List.length_nil] at this ⊢
          omega
        have hbys : bys (encB nm ++ [UInt8.ofNat cn] ++ (cols.take (k + 1)).flatMap encC) = bys (encB nm ++ [UInt8.ofNat cn] ++ (cols.take k).flatMap encC) ++ bys (UInt8.ofNat s.size :: s.data.toList) ++ [.int .u8 ck, .int .u8 cm] := by
          rw [Hto.out, u8_small ck (by omega) (by omega), u8_small cm (by omega) (by omega)]
          simp [bys, encB]
        have Hsum := hide hsum
        have Hbys := hide hbys
        clear hsum hbys
        go_wp2_with fail
        rw [← hW0]
        clear hW0
        have qd0 := qa0.alloc (.cells #[.int .u8 ck, .int .u8 cm] 5)
        go_region_law
          ((first
            | ((first | refine step_call (f := 108) (vs := [.slice (some ⟨W0.heap.size, 0, none⟩) s.size (fc W0.drew)]) (by rfl) (by rfl) (by rfl) (by simp [go_sem]) (wbytes_any _ s.size _ s.data.toList _ (by first | exact hrbA | exact hrbA.alloc _) (by omega)) ?_ | refine step_call (f := 108) (vs := [.slice (some ⟨W0.heap.size + 1, 0, none⟩) s.size (fc (W0.alloc (.cells #[.int .u8 ck, .int .u8 cm] 5)).drew)]) (by rfl) (by rfl) (by rfl) (by simp [go_sem]) (wbytes_any _ s.size _ s.data.toList _ hrbB (by omega)) ?_); rintro e w3 ⟨A3, c3, rfl, hown3, hb3⟩; refine ⟨_, rfl, ?_⟩; have hb3' : Below W0.heap.size W0 w3 := (by first | exact below_chain hbA hb3 | exact below_chain hbC hb3 | exact below_chain hbB hb3); have hwr3 := below_chain hW hb3'; have t0 := q0.below hb3'; have t1 := q1.below hb3'; have t2 := q2.below hb3')
            | (refine step_app (base := w1.heap.size) (v := .slice A len c) (news := bys (UInt8.ofNat s.size :: s.data.toList)) u8T (by rfl) (by rfl) (by first | exact own_below HO.out hwr3 | exact own_below HO.out (hwr3.alloc hwr3.size _)) (by rfl) (by first | exact Rd.of_own hown3 | exact (Rd.of_own hown3).alloc _) (by rfl) (bys_one _) (by omega) (by omega) (by first | exact Nat.le_trans HB.out.size hwr3.size | exact Nat.le_trans HB.out.size (hwr3.alloc hwr3.size _).size) ?_; intro A4 c4 w4 hown4 hb4 hg4 hat4; have hz4 : w1.heap.size ≤ w4.heap.size := (by first | exact Nat.le_trans (Nat.le_trans HB.out.size hwr3.size) hb4.size | exact Nat.le_trans (Nat.le_trans HB.out.size (hwr3.alloc hwr3.size _).size) hb4.size); have u0 : C w4 wr.heap.size 0 (.string s) := (by first | exact t0.far hg4 hrow (Nat.le_refl _) | exact (t0.alloc _).far hg4 hrow (Nat.le_refl _)); have u1 : C w4 wr.heap.size 1 (.int .i64 ck) := (by first | exact t1.far hg4 hrow (Nat.le_refl _) | exact (t1.alloc _).far hg4 hrow (Nat.le_refl _)); have u2 : C w4 wr.heap.size 2 (.int .i64 cm) := (by first | exact t2.far hg4 hrow (Nat.le_refl _) | exact (t2.alloc _).far hg4 hrow (Nat.le_refl _)))
            | (refine step_app (base := w1.heap.size) (v := .slice A4 (len + (1 + s.size)) c4) (news := [.int .u8 ck, .int .u8 cm]) u8T (by rfl) (by rfl) (by first | exact hown4 | exact hown4.alloc _) (by rfl) (by first | exact Rd.of_own (World.ownsRow_lit (base := 0) w4 #[.int .u8 ck, .int .u8 cm] 2 (Nat.zero_le _) (by decide) rfl) | exact Rd.far (HlB.out.below hb3) hg4 hrow hW.size | exact Rd.far (HlA.out.below hb3) hg4 hrow (Nat.le_trans hW.size hbA.size) | exact Rd.far (Rd.lit w3 #[.int .u8 ck, .int .u8 cm] 5 1 2 _ rfl rfl) hg4 hrow hwr3.size) (by rfl) (by simp [Value.oneCell']) (by omega) (by omega) (by first | exact hz4 | exact Nat.le_trans hz4 (by simp)) ?_; intro A5 c5 w5 hown5 hb5 hg5 hat5; have hne5 : some wr.heap.size ≠ (Value.slice A4 (len + (1 + s.size)) c4).ownBlock := (by rcases hat4 with h | h <;> rw [h] <;> intro he <;> first | exact absurd (hrow _ he.symm) (Nat.lt_irrefl _) | (injection he with he; have := hb3'.size; have := HW0s.out; (try simp at he); omega)); have z0 : C w5 wr.heap.size 0 (.string s) := (by first | exact (hg5.cell_far ⟨wr.heap.size, 0, none⟩ u0.lt hne5).trans u0 | exact (hg5.cell_far ⟨wr.heap.size, 0, none⟩ (u0.alloc _).lt hne5).trans (u0.alloc _)); have z1 : C w5 wr.heap.size 1 (.int .i64 ck) := (by first | exact (hg5.cell_far ⟨wr.heap.size, 1, none⟩ u1.lt hne5).trans u1 | exact (hg5.cell_far ⟨wr.heap.size, 1, none⟩ (u1.alloc _).lt hne5).trans (u1.alloc _)); have z2 : C w5 wr.heap.size 2 (.int .i64 cm) := (by first | exact (hg5.cell_far ⟨wr.heap.size, 2, none⟩ u2.lt hne5).trans u2 | exact (hg5.cell_far ⟨wr.heap.size, 2, none⟩ (u2.alloc _).lt hne5).trans (u2.alloc _)); have hbel : Below w1.heap.size w1 w5 := (by have zz := HB.out; first | exact ((((zz.trans (hwr3.mono zz.size))).trans hb4).trans hb5) | exact ((((zz.trans (hwr3.mono zz.size))).trans hb4).alloc hz4 _).trans hb5 | exact ((((zz.trans (hwr3.mono zz.size))).alloc (Nat.le_trans zz.size hwr3.size) _).trans hb4).trans hb5))
            | fail))
        all_goals have Hown5 := hide hown5
        all_goals have Hbel := hide hbel
        all_goals clear hown5 hbel z0 z1 z2 u0 u1 u2 t0 t1 t2 hb5 hg5 hat5 hb4 hg4 hat4 hne5
        all_goals (try go_wp2_with fail)
        all_goals
          go_roundw
          case rel => exact ⟨k + 1, len + (1 + s.size) + 2, A5, c5, hlt, by go_num, rfl, Hsum, hide (by rw [Hbys.out]; exact Hown5.out), by omega, Hbel⟩
          case measure => simp [intOf]; omega
      have hke : cn = k := by omega
      subst hke
      have hpre : encB nm ++ [UInt8.ofNat cn] ++ (cols.take cn).flatMap encC = encB nm ++ [UInt8.ofNat cn] ++ cols.flatMap encC := by
        have : cols.take cn = cols := by rw [← hcn, List.take_length]
        rw [this]
      have hO2 := HO.out
      have hL2 := HLn.out
      rw [hpre] at hO2 hL2
      have HR2 := HR.out
      generalize encB nm ++ [UInt8.ofNat cn] ++ cols.flatMap encC = pre at hO2 hL2 HR2
      have HO2 := hide hO2
      have HL2 := hide hL2
      have HR3 := hide HR2
      have p1r := p1.below HB.out
      have p2r := p2.below HB.out
      have p2lt := p2.lt
      have hx8 := wrap_u8 (xn : Int) (by omega) (by omega)
      have hxv := u8_small (xn : Int) (by omega) (by omega)
      have Hxv := hide hxv
      clear hxv hpre hO2 hL2 HR2 HR HLn HO
      go_wp2_with (at_builtin; refine wp_lit u8T rfl rfl HO2.out rfl rfl (by simp) (by rfl) (by simp [Value.oneCell']) (by omega) (by omega) HB.out.size ?_; intro A2 c2 w3 hown3 hb3 hg3; have p2a : C w3 w.heap.size 2 (.slice XA xn xc) := (hb3.cell (p := ⟨w.heap.size, 2, none⟩) p2lt).trans p2r)
      have Hown3 := hide hown3
      have HB3 := hide (HB.out.trans hb3)
      clear hown3 hb3 hg3 HB HO2 p1r p2r
      go_loopw [5, 58] (fun b i wr => ∃ (k len : Nat) (A : Option Addr) (c : Nat), k ≤ xn ∧ i = .int .i64 k ∧ b = .slice A len c ∧ Hid (len = (pre ++ [UInt8.ofNat xn] ++ (ixs.take k).flatMap encX).length) ∧ Hid (wr.ownsRow w1.heap.size 5 1 (.slice A len c) len (bys (pre ++ [UInt8.ofNat xn] ++ (ixs.take k).flatMap encX))) ∧ len ≤ 50 + 2 * k ∧ Hid (Below w1.heap.size w1 wr)) (fun _ i _ => xn - (intOf i).toNat)
      case atStart =>
        refine ⟨0, len + 1, A2, c2, Nat.zero_le _, rfl, rfl, hide (by simp [HL2.out]), hide ?_, by omega, HB3⟩
        have := Hown3.out
        simp only [List.take_zero, List.flatMap_nil, List.append_nil, bys_append]
        rw [show bys [UInt8.ofNat xn] = [.int .u8 (xn : Int)] by rw [Hxv.out]; rfl]
        exact this
      case round =>
        obtain ⟨k, len, A, c, hk, rfl, rfl, HLn, HO, hlen, HB⟩ := hrel
        have hbw := below_chain Hb.out HB.out
        by_cases hlt : k < xn
        rotate_left
        · have hke : xn = k := by omega
          subst hke
          have hfull : pre ++ [UInt8.ofNat xn] ++ (ixs.take xn).flatMap encX = R := by
            have : ixs.take xn = ixs := by rw [← hxn, List.take_length]
            rw [this]; exact HR3.out
          have hO2 := HO.out
          have hL2 := HLn.out
          rw [hfull] at hO2 hL2
          have HO2 := hide hO2
          have HL2 := hide hL2
          clear hfull hO2 hL2 HO HLn
          go_wp2
          go_ret2
          rw [← HL2.out]
          exact ⟨A, c, rfl, own_mono HO2.out hsz, hbw⟩
        obtain ⟨b, o, rfl, hcc⟩ := (HX.out.below hbw).struct Ix.cells_len ixs hxn k (by omega)
        obtain ⟨x, hx⟩ : ∃ x, ixs[k]'(by omega) = x := ⟨_, rfl⟩
        have hm : x ∈ ixs := by rw [← hx]; exact List.getElem_mem _
        rw [hx] at hcc
        have ht : ixs.take (k + 1) = ixs.take k ++ [x] := by rw [← hx]; simp
        have hxf := F6.out x hm
        obtain ⟨ck, cu⟩ := x
        simp only at hxf
        have e0 : C wr b (o + k * 2) (.int .i64 ck) := hcc 0 (by omega)
        have e1 : C wr b (o + k * 2 + 1) (.bool cu) := hcc 1 (by omega)
        have hk8 := wrap_u8 ck (by omega) (by omega)
        have hto : pre ++ [UInt8.ofNat xn] ++ (ixs.take (k + 1)).flatMap encX = pre ++ [UInt8.ofNat xn] ++ (ixs.take k).flatMap encX ++ [UInt8.ofNat ck.toNat, cond cu 1 0] := by
          rw [ht]; simp [encX]
        have hby : bys (pre ++ [UInt8.ofNat xn] ++ (ixs.take (k + 1)).flatMap encX) = bys (pre ++ [UInt8.ofNat xn] ++ (ixs.take k).flatMap encX) ++ [.int .u8 ck, .int .u8 (cond cu 1 0)] := by
          rw [hto, bys_append, u8_small ck (by omega) (by omega)]
          cases cu <;> rfl
        have hsum : len + 2 = (pre ++ [UInt8.ofNat xn] ++ (ixs.take (k + 1)).flatMap encX).length := by
          rw [hto, List.length_append, ← HLn.out]; rfl
        have Hby := hide hby
        have Hsum := hide hsum
        have HO1 := hide (own_below HO.out ((Below.refl _ _).alloc (Nat.le_refl _) (.cells #[.int .i64 ck, .bool cu] 68)))
        have HB1 := hide (HB.out.alloc HB.out.size (.cells #[.int .i64 ck, .bool cu] 68))
        clear hcc hx ht hm hto hby hsum HO HLn
        cases cu
        · go_wp2_with (at_builtin; refine wp_lit u8T rfl rfl HO1.out rfl rfl (by simp) (by rfl) (by simp [Value.oneCell']) (by omega) (by omega) HB1.out.size ?_; intro A5 c5 w5 hown5 hb5 hg5)
          go_roundw
          case rel => exact ⟨k + 1, len + 2, A5, c5, hlt, by go_num, rfl, Hsum, hide (by rw [Hby.out]; exact hown5), by omega, hide (HB1.out.trans hb5)⟩
          case measure => simp [intOf]; omega
        go_wp2_with (at_builtin; refine wp_lit u8T rfl rfl HO1.out rfl rfl (by simp) (by rfl) (by simp [Value.oneCell']) (by omega) (by omega) HB1.out.size ?_; intro A5 c5 w5 hown5 hb5 hg5)
        go_roundw
        case rel => exact ⟨k + 1, len + 2, A5, c5, hlt, by go_num, rfl, Hsum, hide (by rw [Hby.out]; exact hown5), by omega, hide (HB1.out.trans hb5)⟩
        case measure => simp [intOf]; omega
end Go.Proofs.YtekokogmnhlchaaGreatDoor
