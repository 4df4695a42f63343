import Derived.Test.YtekokogmnhlchaaGreatDoorF6
import Derived.Test.YtekokogmnhlchaaGreatDoorD9
import Derived.Test.YtekokogmnhlchaaGreatDoorE6
import Derived.Test.YtekokogmnhlchaaGreatDoorB5
import Derived.Test.YtekokogmnhlchaaGreatDoorD1
import Derived.Deep.CutBlock
set_option linter.unusedSimpArgs false
set_option linter.unusedVariables false
set_option linter.unusedSectionVars false
namespace Go.Proofs.YtekokogmnhlchaaGreatDoor
open Go.RowKit
theorem St.schemaP {B0 db sb n : Nat} {w0 w : World} {D : List Tb} (st : St B0 w0 w db sb n D) (nm : ByteArray) (hnm : nm.size ≤ 9223372036854775807) :
    Calls Tryz.prog 30 #[.pointer (some ⟨db, 0, none⟩), .string nm] w fun e w' => SchP D nm w' e ∧ Below w.heap.size w w' := by
  obtain ⟨L, hd, hl⟩ := st.ex
  exact schema_any B0 db sb L D nm w hd hnm
set_option maxHeartbeats 12800000 in
set_option maxRecDepth 1000000 in
theorem plays_ok (A : Option Addr) (m c : Nat) (l : List OpV) (w : World) (ho : OpsAt w.heap.size w A m l) (hf : FitL l) (hm : m ≤ 1000000000) (hT : Tabs w) :
    Calls Tryz.prog 9 #[.slice A m c] w fun e w' => e = .returned (.bool true) ∧ Below w.heap.size w w' := by
  have hl := ho.1
  have HT := hide hT
  have Ho := hide ho
  have Hf := hide hf
  clear hT ho hf
  go_enter Tryz.func9, Tryz.ntmps9
  go_wp2_with fail
  refine (lnew_ok _).mono ?_
  rintro e w1 ⟨db, sb, rfl, hd, hb⟩
  have hal := (Below.refl w1.heap.size w1).alloc (Nat.le_refl _) (.cells #[.slice none 0 0] 73)
  have hs1 := St.new hd hb HT.out HT.out.three
  have hdb1 := hs1.lt
  have S1 := hide (hs1.below hal)
  have V1 := hide (Blk.new w1 #[.slice none 0 0] 73)
  have D1 : Hid (DBR (Foot (w1.alloc (.cells #[.slice none 0 0] 73)) db) (w1.alloc (.cells #[.slice none 0 0] 73)) none 0 []) := hide (DBR.nil _ _)
  have R1 := hide RefD.nil
  have O1 := hide ((Ho.out.below hb).below hal)
  have hB1 : w.heap.size ≤ w1.heap.size := hb.size
  have h31 : 3 ≤ w1.heap.size := Nat.le_trans HT.out.three hB1
  have hvdb : w1.heap.size ≠ db := by omega
  clear hd hb hal hs1 Ho
  go_wp2_with fail
  go_loopw [6] (fun iv wr => ∃ (k : Nat) (A' : Option Addr) (m' c' : Nat) (W : List Tb), k ≤ min m 40 ∧ iv = .int .i64 k ∧ Hid (St w.heap.size w wr db sb (8 * k) (runD [] (l.take k))) ∧ Hid (Blk wr w1.heap.size #[.slice A' m' c'] 73) ∧ Hid (DBR (Foot wr db) wr A' m' W) ∧ Hid (RefD (runD [] (l.take k)) W) ∧ Hid (OpsAt w.heap.size wr A m l)) (fun iv _ => (min m 40) - (intOf iv).toNat)
  case atStart => exact ⟨0, none, 0, 0, [], Nat.zero_le _, rfl, S1, V1, D1, R1, O1⟩
  case round =>
    clear S1 V1 D1 R1 O1
    obtain ⟨k, A', m', c', W, hk, rfl, HS, HV, HD, HR, HO⟩ := hrel
    by_cases hlt : k < m ∧ k < 40
    rotate_left
    · have HLZ : Hid (∀ W', Below wr.heap.size wr W' → Calls Tryz.prog 22 #[.pointer (some ⟨db, 0, none⟩), .string ⟨#[90]⟩] W' fun e w' => e = .returned (.tuple #[.int .i64 0, .int .i64 60]) ∧ Below W'.heap.size W' w') := hide fun W' hW => ((HS.out.below hW).len ⟨#[90]⟩ (by decide)).mono fun e w' hp => ⟨by have h1 := hp.1; rw [no_Z HS.out.ok] at h1; exact h1, hp.2⟩
      have HBS := hide HS.out.b
      have HT' := hide (HT.out.below HS.out.b)
      have h3' := Nat.le_trans HT.out.three HS.out.b.size
      have Hz := hide (HLZ.out wr (Below.refl _ _))
      clear HS HV HD HR HO HLZ
      have hcase : ¬ (k : Int) < (m : Int) ∨ ((k : Int) < (m : Int) ∧ ¬ (k : Int) < 40) := by omega
      rcases hcase with hk1 | ⟨hk1, hk2⟩
      all_goals
        clear hlt
        go_wp2_with fail
        refine Hz.out.mono ?_
        rintro e w2 ⟨rfl, hb2⟩
        have hto := told_ok w2 (HT'.out.below hb2) (Nat.le_trans h3' hb2.size)
        have Hto := hide hto
        have HBT := hide (below_then HBS.out HBS.out.size hb2)
        clear hto hb2 Hz
        go_wp2_with fail
        refine Hto.out.mono ?_
        rintro e w3 ⟨rfl, hb3⟩
        go_wp2_with fail
        go_ret
        exact ⟨rfl, below_then HBT.out HBT.out.size hb3⟩
    obtain ⟨hlm, hl40⟩ := hlt
    have hkl : k < l.length := by omega
    obtain ⟨b, o, cs, hA, hop, h17, hc⟩ := HO.out.at_ k hkl
    cases hA
    obtain ⟨ov, hov⟩ : ∃ ov, l[k] = ov := ⟨_, rfl⟩
    have hfit := Hf.out ov (hov ▸ List.getElem_mem _)
    have htk : runD [] (l.take (k + 1)) = stepC (runD [] (l.take k)) (cut4 ov) := by rw [List.take_succ_eq_append_getElem hkl, hov, runD_snoc, runStep_eq]
    rw [hov] at hop
    have hopc := op_any w.heap.size ov cs wr hop
    have Hov := hide hov
    have hc4 : (cut4 ov).row.length ≤ 4 := by show (ov.row.take 4).length ≤ 4; rw [List.length_take]; omega
    obtain ⟨CA, cc, XA, xc, RA, rc, rfl, k1, k2, k3, k4, k5, k6⟩ := hop
    have c0 := hc 0 (by omega)
    have c1 := hc 1 (by omega)
    have c2 := hc 2 (by omega)
    have c3 := hc 3 (by omega)
    have c4 := hc 4 (by omega)
    have c5 := hc 5 (by omega)
    have c6 := hc 6 (by omega)
    have c7 := hc 7 (by omega)
    have c8 := hc 8 (by omega)
    have c9 := hc 9 (by omega)
    have c10 := hc 10 (by omega)
    have c11 := hc 11 (by omega)
    have c12 := hc 12 (by omega)
    have c13 := hc 13 (by omega)
    have c14 := hc 14 (by omega)
    have c15 := hc 15 (by omega)
    have c16 := hc 16 (by omega)
    simp only [List.getElem?_cons_zero, List.getElem?_cons_succ, Nat.add_zero] at c0 c1 c2 c3 c4 c5 c6 c7 c8 c9 c10 c11 c12 c13 c14 c15 c16
    have Hopc := hide hopc
    have Hfit := hide (cut4_fit hfit)
    have Hfo := hide hfit
    have Htk := hide htk
    clear hc k1 k2 k3 k4 k5 k6 hfit htk hopc hov h17
    have hlt' : (k : Int) < (m : Int) := by omega
    have hlm' : (k : Int) < 40 := by omega
    obtain ⟨o', ho'⟩ : ∃ o', cut4 ov = o' := ⟨_, rfl⟩
    rw [ho'] at Hopc Hfit Htk hc4
    have Hcut := hide ho'
    obtain ⟨Dk, hDk⟩ : ∃ Dk, runD [] (l.take k) = Dk := ⟨_, rfl⟩
    rw [hDk] at HS HR Htk
    obtain ⟨D2, hD2⟩ : ∃ D2, runD [] (l.take (k + 1)) = D2 := ⟨_, rfl⟩
    rw [hD2] at Htk
    have HD2 := hide hD2
    clear ho' hDk hD2
    go_wp2_with fail
    refine Hopc.out.mono ?_
    rintro e w2 ⟨cs', rfl, hop2, hb2⟩
    obtain ⟨kk, tt, ss, rr, ky, cq, lo, hi, lim⟩ := o'
    have hop3 := hop2
    obtain ⟨CA', cc', XA', xc', RA', rc', rfl, k1, k2, k3, k4, k5, k6⟩ := hop2
    dsimp only at k1 k2 k3 k4 k5 k6 hop3 hc4 ⊢
    as_aux_lemma =>
      have hal := (Below.refl w2.heap.size w2).alloc (Nat.le_refl _) (.cells #[.int .i64 kk, .string tt, .string ss.name, .slice CA' ss.cols.length cc', .slice XA' ss.ixs.length xc', .slice RA' rr.length rc', .int .i64 ky.k, .int .i64 ky.n, .string ky.s, .int .i64 cq, .int .i64 lo.k, .int .i64 lo.n, .string lo.s, .int .i64 hi.k, .int .i64 hi.n, .string hi.s, .int .i64 lim] 35)
      have hnb := Blk.new w2 #[.int .i64 kk, .string tt, .string ss.name, .slice CA' ss.cols.length cc', .slice XA' ss.ixs.length xc', .slice RA' rr.length rc', .int .i64 ky.k, .int .i64 ky.n, .string ky.s, .int .i64 cq, .int .i64 lo.k, .int .i64 lo.n, .string lo.s, .int .i64 hi.k, .int .i64 hi.n, .string hi.s, .int .i64 lim] 35
      have hb3 := below_chain hb2 hal
      have hdbl := HS.out.lt
      have S3 := hide (HS.out.below hb3)
      have V3 := hide (HV.out.below hb3)
      have D3 := hide ((HD.out.below hb3).congr (fun b hb => (foot_same (hb3.block db hdbl) b).1 hb))
      have O3 := hide (HO.out.below hb3)
      have P3 := hide (hop3.below hal)
      have N3 := hide hnb
      have hboth := both_any S3.out (by omega) (c := c') D3.out HR.out _ _ P3.out Hfit.out hc4
      rw [← Htk.out] at hboth
      have d0 := hnb.c 0 (v := .int .i64 kk) rfl
      have d1 := hnb.c 1 (v := .string tt) rfl
      have d2 := hnb.c 2 (v := .string ss.name) rfl
      have d3 := hnb.c 3 (v := .slice CA' ss.cols.length cc') rfl
      have d4 := hnb.c 4 (v := .slice XA' ss.ixs.length xc') rfl
      have d5 := hnb.c 5 (v := .slice RA' rr.length rc') rfl
      have d6 := hnb.c 6 (v := .int .i64 ky.k) rfl
      have d7 := hnb.c 7 (v := .int .i64 ky.n) rfl
      have d8 := hnb.c 8 (v := .string ky.s) rfl
      have d9 := hnb.c 9 (v := .int .i64 cq) rfl
      have d10 := hnb.c 10 (v := .int .i64 lo.k) rfl
      have d11 := hnb.c 11 (v := .int .i64 lo.n) rfl
      have d12 := hnb.c 12 (v := .string lo.s) rfl
      have d13 := hnb.c 13 (v := .int .i64 hi.k) rfl
      have d14 := hnb.c 14 (v := .int .i64 hi.n) rfl
      have d15 := hnb.c 15 (v := .string hi.s) rfl
      have d16 := hnb.c 16 (v := .int .i64 lim) rfl
      have v0 := V3.out.c 0 (v := .slice A' m' c') rfl
      have hv2 : w1.heap.size < w2.heap.size := Nat.lt_of_lt_of_le HV.out.lt hb2.size
      have Hboth := hide hboth
      clear hal hnb hb3 hb2 c0 c1 c2 c3 c4 c5 c6 c7 c8 c9 c10 c11 c12 c13 c14 c15 c16 Hopc hboth k1 k2 k3 k4 k5 k6 hop3 HS HD HO hlt' hlm' hdbl
      go_wp2_with fail
      refine Hboth.out.mono ?_
      rintro e w4 ⟨A2, m2, c2, W2, rfl, hs4, hd4, hr4, hu4⟩
      as_aux_lemma =>
        have v4 := S3.out.blk V3.out (by decide) (by decide) hu4
        have n4 := S3.out.blk N3.out (by decide) (by decide) hu4
        have o4 := O3.out.upd S3.out hu4
        have p4 := P3.out.upd S3.out hu4
        have dold := D3.out.upd hu4
        have hoW := hr4.okW hs4.ok
        have hm24 : m2 ≤ 4 := hd4.1 ▸ hoW.n4
        have hdbl := hs4.lt
        have S5 := hide (hs4.setc v4 (by intro x hx; simp only [List.mem_cons, List.mem_nil_iff, or_false] at hx; subst hx; trivial) (by decide) (by decide) hB1 h31 0 (.slice A2 m2 c2))
        have V5 := hide (v4.set 0 (.slice A2 m2 c2))
        have N5 := hide (n4.set_other (a := ⟨w1.heap.size, 0, none⟩) (by show w2.heap.size ≠ w1.heap.size; omega) (.slice A2 m2 c2))
        have O5 := hide (o4.set73 v4 (.slice A2 m2 c2))
        have P5 := hide (p4.set73 v4 (.slice A2 m2 c2))
        have D5 := hide ((hd4.set73 hoW v4 dold (.slice A2 m2 c2)).congr (fun b hb => (foot_same (Below.heap_setCell w4 ⟨w1.heap.size, 0, none⟩ (.slice A2 m2 c2) db (fun e => hvdb e.symm)) b).1 hb))
        have R5 := hide hr4
        have v0 := v4.c 0 (v := .slice A' m' c') rfl
        have f0 := v4.fr 0
        clear hs4 hd4 hr4 hu4 n4 o4 p4 dold Hboth S3 V3 D3 O3 P3 N3 HV HR d0 d1 d2 d3 d4 d5 d6 d7 d8 d9 d10 d11 d12 d13 d14 d15 d16 v4
        go_wp2_with fail
        obtain ⟨w5, hw5⟩ : ∃ w5, w4.setCell ⟨w1.heap.size, 0, none⟩ (.slice A2 m2 c2) = w5 := ⟨_, rfl⟩
        rw [hw5] at S5 V5 N5 O5 P5 D5 ⊢
        have hkm : k < l.length := hkl
        obtain ⟨b', o', cs5, hA5, hop5, h175, hc5⟩ := O5.out.at_ k hkl
        injection hA5 with hA5
        injection hA5 with ea eb _
        subst ea
        subst eb
        rw [Hov.out] at hop5
        have hop6 := hop5
        obtain ⟨CB, cb, XB, xb, RB, rb, rfl, j1, j2, j3, j4, j5, j6⟩ := hop5
        have e0 := hc5 0 (by omega)
        have e1 := hc5 1 (by omega)
        have e2 := hc5 2 (by omega)
        have e3 := hc5 3 (by omega)
        have e4 := hc5 4 (by omega)
        have e5 := hc5 5 (by omega)
        have e6 := hc5 6 (by omega)
        have e7 := hc5 7 (by omega)
        have e8 := hc5 8 (by omega)
        have e9 := hc5 9 (by omega)
        have e10 := hc5 10 (by omega)
        have e11 := hc5 11 (by omega)
        have e12 := hc5 12 (by omega)
        have e13 := hc5 13 (by omega)
        have e14 := hc5 14 (by omega)
        have e15 := hc5 15 (by omega)
        have e16 := hc5 16 (by omega)
        simp only [List.getElem?_cons_zero, List.getElem?_cons_succ, Nat.add_zero] at e0 e1 e2 e3 e4 e5 e6 e7 e8 e9 e10 e11 e12 e13 e14 e15 e16
        have u2 := N5.out.c 2 (v := .string ss.name) rfl
        have u3 := N5.out.c 3 (v := .slice CA' ss.cols.length cc') rfl
        have u4 := N5.out.c 4 (v := .slice XA' ss.ixs.length xc') rfl
        have u5 := N5.out.c 5 (v := .slice RA' rr.length rc') rfl
        have hY : ∀ W', Below w5.heap.size w5 W' → (W'.cell? ⟨b, o + k * 17, none⟩ = some (.int .i64 ov.k) ∧ W'.cell? ⟨b, o + k * 17 + 1, none⟩ = some (.string ov.tb) ∧ W'.cell? ⟨b, o + k * 17 + 2, none⟩ = some (.string ov.s.name) ∧ W'.cell? ⟨b, o + k * 17 + 3, none⟩ = some (.slice CB ov.s.cols.length cb) ∧ W'.cell? ⟨b, o + k * 17 + 4, none⟩ = some (.slice XB ov.s.ixs.length xb) ∧ W'.cell? ⟨b, o + k * 17 + 5, none⟩ = some (.slice RB ov.row.length rb) ∧ W'.cell? ⟨b, o + k * 17 + 6, none⟩ = some (.int .i64 ov.key.k) ∧ W'.cell? ⟨b, o + k * 17 + 7, none⟩ = some (.int .i64 ov.key.n) ∧ W'.cell? ⟨b, o + k * 17 + 8, none⟩ = some (.string ov.key.s) ∧ W'.cell? ⟨b, o + k * 17 + 9, none⟩ = some (.int .i64 ov.c) ∧ W'.cell? ⟨b, o + k * 17 + 10, none⟩ = some (.int .i64 ov.lo.k) ∧ W'.cell? ⟨b, o + k * 17 + 11, none⟩ = some (.int .i64 ov.lo.n) ∧ W'.cell? ⟨b, o + k * 17 + 12, none⟩ = some (.string ov.lo.s) ∧ W'.cell? ⟨b, o + k * 17 + 13, none⟩ = some (.int .i64 ov.hi.k) ∧ W'.cell? ⟨b, o + k * 17 + 14, none⟩ = some (.int .i64 ov.hi.n) ∧ W'.cell? ⟨b, o + k * 17 + 15, none⟩ = some (.string ov.hi.s) ∧ W'.cell? ⟨b, o + k * 17 + 16, none⟩ = some (.int .i64 ov.lim) ∧ W'.cell? ⟨w2.heap.size, 2, none⟩ = some (.string ss.name) ∧ W'.cell? ⟨w2.heap.size, 3, none⟩ = some (.slice CA' ss.cols.length cc') ∧ W'.cell? ⟨w2.heap.size, 4, none⟩ = some (.slice XA' ss.ixs.length xc') ∧ W'.cell? ⟨w2.heap.size, 5, none⟩ = some (.slice RA' rr.length rc')) := fun W' hW' => ⟨C.below e0 hW', C.below e1 hW', C.below e2 hW', C.below e3 hW', C.below e4 hW', C.below e5 hW', C.below e6 hW', C.below e7 hW', C.below e8 hW', C.below e9 hW', C.below e10 hW', C.below e11 hW', C.below e12 hW', C.below e13 hW', C.below e14 hW', C.below e15 hW', C.below e16 hW', C.below u2 hW', C.below u3 hW', C.below u4 hW', C.below u5 hW'⟩
        have hcut := Hcut.out
        have erow : rr = ov.row.take 4 := (congrArg OpV.row hcut).symm
        have esch : ss = (cut4 ov).s := (congrArg OpV.s hcut).symm
        have hrl : rr.length ≤ ov.row.length := by rw [erow, List.length_take]; omega
        have hP5 := P5.out
        obtain ⟨CA1, cc1, XA1, xc1, RA1, rc1, eqc, i1, i2, i3, i4, i5, i6⟩ := hP5
        simp only [List.cons.injEq, Value.slice.injEq, true_and, and_true] at eqc
        obtain ⟨⟨rfl, rfl⟩, ⟨rfl, rfl⟩, rfl, rfl⟩ := eqc
        dsimp only at i1 i2 i3 i4 i5 i6
        have hrow2 := Rd.take_ V.cells_len ov.row rfl j6.rd rr.length hrl
        have hsame : ∀ W', Below w5.heap.size w5 W' → Calls Tryz.prog 34 #[.slice RA' rr.length rc', .slice RB rr.length rb] W' fun e w' => e = .returned (.bool true) ∧ Below W'.heap.size W' w' := fun W' hW' => by
          have h1 := same_any RA' RB rr.length rc' rr.length rb rr (ov.row.take rr.length) W' rfl (by rw [List.length_take]; omega) (i6.rd.below hW') (hrow2.below hW') (by omega)
          have h2 : rr = ov.row.take rr.length := by
            rw [erow, List.length_take, Nat.min_def]; split
            · rfl
            rw [List.take_length, List.take_of_length_le (by omega)]
          rwa [decide_eq_true h2] at h1
        have hop16 : ∀ W', Below w5.heap.size w5 W' → Calls Tryz.prog 16 #[.agg #[.int .i64 ov.k, .string ov.tb, .string ov.s.name, .slice CB ov.s.cols.length cb, .slice XB ov.s.ixs.length xb, .slice RB ov.row.length rb, .int .i64 ov.key.k, .int .i64 ov.key.n, .string ov.key.s, .int .i64 ov.c, .int .i64 ov.lo.k, .int .i64 ov.lo.n, .string ov.lo.s, .int .i64 ov.hi.k, .int .i64 ov.hi.n, .string ov.hi.s, .int .i64 ov.lim]] W' _ := fun W' hW' => op_any w.heap.size ov _ W' (hop6.below hW')
        have hsc := Hfit.out.s.2.2.1
        have hsx := Hfit.out.s.2.2.2
        dsimp only at hsc hsx
        have hs35 : ∀ W' x, Below w5.heap.size w5 W' → SchV W' ss x → Calls Tryz.prog 35 #[.agg #[.string ss.name, .slice CA' ss.cols.length cc', .slice XA' ss.ixs.length xc'], x] W' fun e w' => e = .returned (.bool true) ∧ Below W'.heap.size W' w' := fun W' x hW' hx => same35_eq ss _ x W' ⟨_, _, _, _, rfl, i1, i2, i4.rd.below hW', i5.rd.below hW'⟩ hx (by omega) (by omega)
        have HY := hide hY
        have Hsame := hide hsame
        have Hop16 := hide hop16
        have Hs35 := hide hs35
        have Hesch := hide esch
        have hklm : (k : Int) < (m : Int) := by omega
        have hk0 : ¬ (k : Int) < 0 := by omega
        have hrb : (rr.length : Int) ≤ (rb : Int) := by omega
        have hr0 : ¬ (rr.length : Int) < 0 := by omega
        clear hsc hsx hY hsame hop16 hs35 esch hop6 hc5 i1 i2 i3 i4 i5 i6 j1 j2 j3 j4 j5 j6 hrow2 erow hcut u2 u3 u4 u5 e0 e1 e2 e3 e4 e5 e6 e7 e8 e9 e10 e11 e12 e13 e14 e15 e16 v0 f0
        as_aux_lemma =>
          refine wp_region_held (S := fun w' => Below w5.heap.size w5 w') (by kernel_rfl) ?_
          have hH : Below w5.heap.size w5 w5.drew := (Below.refl _ _).drew
          change wpAnyH _ _ _ _ _ _ _ _ w5.drew
          refine wpAnyH_yield (i := 0) (v := ?_) rfl (by kernel_rfl) (by kernel_rfl) (by kernel_rfl) (fun _ _ _ h => h) (by rfl) hH ?_ ?_
          rotate_left
          · (intro w' s0; obtain ⟨q0, q1, q2, q3, q4, q5, q6, q7, q8, q9, q10, q11, q12, q13, q14, q15, q16, q17, q18, q19, q20⟩ := HY.out w' s0; go_simp; try with_reducible rfl)
          simp only [Act.put, List.setIfInBounds_toArray, List.set_cons_zero, List.set_cons_succ, List.getElem_toArray, List.getElem_cons_zero, List.getElem_cons_succ]
          refine wpAnyH_yield (i := 1) (v := ?_) rfl (by kernel_rfl) (by kernel_rfl) (by kernel_rfl) (fun _ _ _ h => h) (by rfl) hH ?_ ?_
          rotate_left
          · (intro w' s0; obtain ⟨q0, q1, q2, q3, q4, q5, q6, q7, q8, q9, q10, q11, q12, q13, q14, q15, q16, q17, q18, q19, q20⟩ := HY.out w' s0; go_simp; try with_reducible rfl)
          simp only [Act.put, List.setIfInBounds_toArray, List.set_cons_zero, List.set_cons_succ, List.getElem_toArray, List.getElem_cons_zero, List.getElem_cons_succ]
          refine wpAnyH_yield (i := 2) (v := ?_) rfl (by kernel_rfl) (by kernel_rfl) (by kernel_rfl) (fun _ _ _ h => h) (by rfl) hH ?_ ?_
          rotate_left
          · (intro w' s0; obtain ⟨q0, q1, q2, q3, q4, q5, q6, q7, q8, q9, q10, q11, q12, q13, q14, q15, q16, q17, q18, q19, q20⟩ := HY.out w' s0; go_simp; try with_reducible rfl)
          simp only [Act.put, List.setIfInBounds_toArray, List.set_cons_zero, List.set_cons_succ, List.getElem_toArray, List.getElem_cons_zero, List.getElem_cons_succ]
          refine wpAnyH_yield (i := 3) (v := ?_) rfl (by kernel_rfl) (by kernel_rfl) (by kernel_rfl) (fun _ _ _ h => h) (by rfl) hH ?_ ?_
          rotate_left
          · (intro w' s0; obtain ⟨q0, q1, q2, q3, q4, q5, q6, q7, q8, q9, q10, q11, q12, q13, q14, q15, q16, q17, q18, q19, q20⟩ := HY.out w' s0; go_simp; try with_reducible rfl)
          simp only [Act.put, List.setIfInBounds_toArray, List.set_cons_zero, List.set_cons_succ, List.getElem_toArray, List.getElem_cons_zero, List.getElem_cons_succ]
          refine wpAnyH_yield (i := 4) (v := ?_) rfl (by kernel_rfl) (by kernel_rfl) (by kernel_rfl) (fun _ _ _ h => h) (by rfl) hH ?_ ?_
          rotate_left
          · (intro w' s0; obtain ⟨q0, q1, q2, q3, q4, q5, q6, q7, q8, q9, q10, q11, q12, q13, q14, q15, q16, q17, q18, q19, q20⟩ := HY.out w' s0; go_simp; try with_reducible rfl)
          simp only [Act.put, List.setIfInBounds_toArray, List.set_cons_zero, List.set_cons_succ, List.getElem_toArray, List.getElem_cons_zero, List.getElem_cons_succ]
          refine wpAnyH_yield (i := 5) (v := ?_) rfl (by kernel_rfl) (by kernel_rfl) (by kernel_rfl) (fun _ _ _ h => h) (by rfl) hH ?_ ?_
          rotate_left
          · (intro w' s0; obtain ⟨q0, q1, q2, q3, q4, q5, q6, q7, q8, q9, q10, q11, q12, q13, q14, q15, q16, q17, q18, q19, q20⟩ := HY.out w' s0; go_simp; try with_reducible rfl)
          simp only [Act.put, List.setIfInBounds_toArray, List.set_cons_zero, List.set_cons_succ, List.getElem_toArray, List.getElem_cons_zero, List.getElem_cons_succ]
          refine wpAnyH_yield (i := 6) (v := ?_) rfl (by kernel_rfl) (by kernel_rfl) (by kernel_rfl) (fun _ _ _ h => h) (by rfl) hH ?_ ?_
          rotate_left
          · (intro w' s0; obtain ⟨q0, q1, q2, q3, q4, q5, q6, q7, q8, q9, q10, q11, q12, q13, q14, q15, q16, q17, q18, q19, q20⟩ := HY.out w' s0; go_simp; try with_reducible rfl)
          simp only [Act.put, List.setIfInBounds_toArray, List.set_cons_zero, List.set_cons_succ, List.getElem_toArray, List.getElem_cons_zero, List.getElem_cons_succ]
          as_aux_lemma =>
            refine wpAnyH_yield (i := 7) (v := ?_) rfl (by kernel_rfl) (by kernel_rfl) (by kernel_rfl) (fun _ _ _ h => h) (by rfl) hH ?_ ?_
            rotate_left
            · (intro w' s0; obtain ⟨q0, q1, q2, q3, q4, q5, q6, q7, q8, q9, q10, q11, q12, q13, q14, q15, q16, q17, q18, q19, q20⟩ := HY.out w' s0; go_simp; try with_reducible rfl)
            simp only [Act.put, List.setIfInBounds_toArray, List.set_cons_zero, List.set_cons_succ, List.getElem_toArray, List.getElem_cons_zero, List.getElem_cons_succ]
            refine wpAnyH_yield (i := 8) (v := ?_) rfl (by kernel_rfl) (by kernel_rfl) (by kernel_rfl) (fun _ _ _ h => h) (by rfl) hH ?_ ?_
            rotate_left
            · (intro w' s0; obtain ⟨q0, q1, q2, q3, q4, q5, q6, q7, q8, q9, q10, q11, q12, q13, q14, q15, q16, q17, q18, q19, q20⟩ := HY.out w' s0; go_simp; try with_reducible rfl)
            simp only [Act.put, List.setIfInBounds_toArray, List.set_cons_zero, List.set_cons_succ, List.getElem_toArray, List.getElem_cons_zero, List.getElem_cons_succ]
            refine wpAnyH_yield (i := 9) (v := ?_) rfl (by kernel_rfl) (by kernel_rfl) (by kernel_rfl) (fun _ _ _ h => h) (by rfl) hH ?_ ?_
            rotate_left
            · (intro w' s0; obtain ⟨q0, q1, q2, q3, q4, q5, q6, q7, q8, q9, q10, q11, q12, q13, q14, q15, q16, q17, q18, q19, q20⟩ := HY.out w' s0; go_simp; try with_reducible rfl)
            simp only [Act.put, List.setIfInBounds_toArray, List.set_cons_zero, List.set_cons_succ, List.getElem_toArray, List.getElem_cons_zero, List.getElem_cons_succ]
            refine wpAnyH_yield (i := 10) (v := ?_) rfl (by kernel_rfl) (by kernel_rfl) (by kernel_rfl) (fun _ _ _ h => h) (by rfl) hH ?_ ?_
            rotate_left
            · (intro w' s0; obtain ⟨q0, q1, q2, q3, q4, q5, q6, q7, q8, q9, q10, q11, q12, q13, q14, q15, q16, q17, q18, q19, q20⟩ := HY.out w' s0; go_simp; try with_reducible rfl)
            simp only [Act.put, List.setIfInBounds_toArray, List.set_cons_zero, List.set_cons_succ, List.getElem_toArray, List.getElem_cons_zero, List.getElem_cons_succ]
            refine wpAnyH_yield (i := 11) (v := ?_) rfl (by kernel_rfl) (by kernel_rfl) (by kernel_rfl) (fun _ _ _ h => h) (by rfl) hH ?_ ?_
            rotate_left
            · (intro w' s0; obtain ⟨q0, q1, q2, q3, q4, q5, q6, q7, q8, q9, q10, q11, q12, q13, q14, q15, q16, q17, q18, q19, q20⟩ := HY.out w' s0; go_simp; try with_reducible rfl)
            simp only [Act.put, List.setIfInBounds_toArray, List.set_cons_zero, List.set_cons_succ, List.getElem_toArray, List.getElem_cons_zero, List.getElem_cons_succ]
            refine wpAnyH_yield (i := 12) (v := ?_) rfl (by kernel_rfl) (by kernel_rfl) (by kernel_rfl) (fun _ _ _ h => h) (by rfl) hH ?_ ?_
            rotate_left
            · (intro w' s0; obtain ⟨q0, q1, q2, q3, q4, q5, q6, q7, q8, q9, q10, q11, q12, q13, q14, q15, q16, q17, q18, q19, q20⟩ := HY.out w' s0; go_simp; try with_reducible rfl)
            simp only [Act.put, List.setIfInBounds_toArray, List.set_cons_zero, List.set_cons_succ, List.getElem_toArray, List.getElem_cons_zero, List.getElem_cons_succ]
            refine wpAnyH_yield (i := 13) (v := ?_) rfl (by kernel_rfl) (by kernel_rfl) (by kernel_rfl) (fun _ _ _ h => h) (by rfl) hH ?_ ?_
            rotate_left
            · (intro w' s0; obtain ⟨q0, q1, q2, q3, q4, q5, q6, q7, q8, q9, q10, q11, q12, q13, q14, q15, q16, q17, q18, q19, q20⟩ := HY.out w' s0; go_simp; try with_reducible rfl)
            simp only [Act.put, List.setIfInBounds_toArray, List.set_cons_zero, List.set_cons_succ, List.getElem_toArray, List.getElem_cons_zero, List.getElem_cons_succ]
            refine wpAnyH_one (i := 14) (by kernel_rfl) rfl (by rfl) fun K hK => ?_
            refine oper_call (f := 34) (args := [.tmp 50, .tmp 59]) (vs := [.slice RA' rr.length rc', .slice RB rr.length rb]) rfl rfl (by simp [invoke, go_sem]) (Hsame.out _ hH) ?_
            rintro e w6 ⟨rfl, hb6⟩
            refine ⟨_, rfl, ?_⟩
            have hH6 : Below w5.heap.size w5 w6 := below_then hH hH.size hb6
            refine hK _ _ hH6 ?_
            clear hK K
            try simp only [Act.put, List.setIfInBounds_toArray, List.set_cons_zero, List.set_cons_succ, List.getElem_toArray, List.getElem_cons_zero, List.getElem_cons_succ]
            clear hH hb6 Hsame
            have hH := hH6
            clear hH6
            as_aux_lemma =>
              refine wpAnyH_yield (i := 15) (v := ?_) rfl (by kernel_rfl) (by kernel_rfl) (by kernel_rfl) (fun _ _ _ h => h) (by rfl) hH ?_ ?_
              rotate_left
              · (intro w' s0; obtain ⟨q0, q1, q2, q3, q4, q5, q6, q7, q8, q9, q10, q11, q12, q13, q14, q15, q16, q17, q18, q19, q20⟩ := HY.out w' s0; go_simp; try with_reducible rfl)
              simp only [Act.put, List.setIfInBounds_toArray, List.set_cons_zero, List.set_cons_succ, List.getElem_toArray, List.getElem_cons_zero, List.getElem_cons_succ]
              refine wpAnyH_yield (i := 16) (v := ?_) rfl (by kernel_rfl) (by kernel_rfl) (by kernel_rfl) (fun _ _ _ h => h) (by rfl) hH ?_ ?_
              rotate_left
              · (intro w' s0; obtain ⟨q0, q1, q2, q3, q4, q5, q6, q7, q8, q9, q10, q11, q12, q13, q14, q15, q16, q17, q18, q19, q20⟩ := HY.out w' s0; go_simp; try with_reducible rfl)
              simp only [Act.put, List.setIfInBounds_toArray, List.set_cons_zero, List.set_cons_succ, List.getElem_toArray, List.getElem_cons_zero, List.getElem_cons_succ]
              refine wpAnyH_yield (i := 17) (v := ?_) rfl (by kernel_rfl) (by kernel_rfl) (by kernel_rfl) (fun _ _ _ h => h) (by rfl) hH ?_ ?_
              rotate_left
              · (intro w' s0; obtain ⟨q0, q1, q2, q3, q4, q5, q6, q7, q8, q9, q10, q11, q12, q13, q14, q15, q16, q17, q18, q19, q20⟩ := HY.out w' s0; go_simp; try with_reducible rfl)
              simp only [Act.put, List.setIfInBounds_toArray, List.set_cons_zero, List.set_cons_succ, List.getElem_toArray, List.getElem_cons_zero, List.getElem_cons_succ]
              refine wpAnyH_yield (i := 18) (v := ?_) rfl (by kernel_rfl) (by kernel_rfl) (by kernel_rfl) (fun _ _ _ h => h) (by rfl) hH ?_ ?_
              rotate_left
              · (intro w' s0; obtain ⟨q0, q1, q2, q3, q4, q5, q6, q7, q8, q9, q10, q11, q12, q13, q14, q15, q16, q17, q18, q19, q20⟩ := HY.out w' s0; go_simp; try with_reducible rfl)
              simp only [Act.put, List.setIfInBounds_toArray, List.set_cons_zero, List.set_cons_succ, List.getElem_toArray, List.getElem_cons_zero, List.getElem_cons_succ]
              refine wpAnyH_yield (i := 19) (v := ?_) rfl (by kernel_rfl) (by kernel_rfl) (by kernel_rfl) (fun _ _ _ h => h) (by rfl) hH ?_ ?_
              rotate_left
              · (intro w' s0; obtain ⟨q0, q1, q2, q3, q4, q5, q6, q7, q8, q9, q10, q11, q12, q13, q14, q15, q16, q17, q18, q19, q20⟩ := HY.out w' s0; go_simp; try with_reducible rfl)
              simp only [Act.put, List.setIfInBounds_toArray, List.set_cons_zero, List.set_cons_succ, List.getElem_toArray, List.getElem_cons_zero, List.getElem_cons_succ]
              refine wpAnyH_yield (i := 20) (v := ?_) rfl (by kernel_rfl) (by kernel_rfl) (by kernel_rfl) (fun _ _ _ h => h) (by rfl) hH ?_ ?_
              rotate_left
              · (intro w' s0; obtain ⟨q0, q1, q2, q3, q4, q5, q6, q7, q8, q9, q10, q11, q12, q13, q14, q15, q16, q17, q18, q19, q20⟩ := HY.out w' s0; go_simp; try with_reducible rfl)
              simp only [Act.put, List.setIfInBounds_toArray, List.set_cons_zero, List.set_cons_succ, List.getElem_toArray, List.getElem_cons_zero, List.getElem_cons_succ]
              refine wpAnyH_yield (i := 21) (v := ?_) rfl (by kernel_rfl) (by kernel_rfl) (by kernel_rfl) (fun _ _ _ h => h) (by rfl) hH ?_ ?_
              rotate_left
              · (intro w' s0; obtain ⟨q0, q1, q2, q3, q4, q5, q6, q7, q8, q9, q10, q11, q12, q13, q14, q15, q16, q17, q18, q19, q20⟩ := HY.out w' s0; go_simp; try with_reducible rfl)
              simp only [Act.put, List.setIfInBounds_toArray, List.set_cons_zero, List.set_cons_succ, List.getElem_toArray, List.getElem_cons_zero, List.getElem_cons_succ]
              refine wpAnyH_yield (i := 22) (v := ?_) rfl (by kernel_rfl) (by kernel_rfl) (by kernel_rfl) (fun _ _ _ h => h) (by rfl) hH ?_ ?_
              rotate_left
              · (intro w' s0; obtain ⟨q0, q1, q2, q3, q4, q5, q6, q7, q8, q9, q10, q11, q12, q13, q14, q15, q16, q17, q18, q19, q20⟩ := HY.out w' s0; go_simp; try with_reducible rfl)
              simp only [Act.put, List.setIfInBounds_toArray, List.set_cons_zero, List.set_cons_succ, List.getElem_toArray, List.getElem_cons_zero, List.getElem_cons_succ]
              refine wpAnyH_yield (i := 23) (v := ?_) rfl (by kernel_rfl) (by kernel_rfl) (by kernel_rfl) (fun _ _ _ h => h) (by rfl) hH ?_ ?_
              rotate_left
              · (intro w' s0; obtain ⟨q0, q1, q2, q3, q4, q5, q6, q7, q8, q9, q10, q11, q12, q13, q14, q15, q16, q17, q18, q19, q20⟩ := HY.out w' s0; go_simp; try with_reducible rfl)
              simp only [Act.put, List.setIfInBounds_toArray, List.set_cons_zero, List.set_cons_succ, List.getElem_toArray, List.getElem_cons_zero, List.getElem_cons_succ]
              as_aux_lemma =>
                refine wpAnyH_one (i := 24) (by kernel_rfl) rfl (by rfl) fun K hK => ?_
                refine oper_call (f := 16) (args := [.tmp 69]) (vs := [.agg #[.int .i64 ov.k, .string ov.tb, .string ov.s.name, .slice CB ov.s.cols.length cb, .slice XB ov.s.ixs.length xb, .slice RB ov.row.length rb, .int .i64 ov.key.k, .int .i64 ov.key.n, .string ov.key.s, .int .i64 ov.c, .int .i64 ov.lo.k, .int .i64 ov.lo.n, .string ov.lo.s, .int .i64 ov.hi.k, .int .i64 ov.hi.n, .string ov.hi.s, .int .i64 ov.lim]]) rfl rfl (by simp [invoke, go_sem]) (Hop16.out _ hH) ?_
                rintro e w7 ⟨cs7, rfl, hop7, hb7⟩
                obtain ⟨C7, cc7, X7, xc7, R7, rc7, rfl, i1, i2, i3, i4, i5, i6⟩ := hop7
                refine ⟨_, rfl, ?_⟩
                have hH7 : Below w5.heap.size w5 w7 := below_then hH hH.size hb7
                refine hK _ _ hH7 ?_
                clear hK K
                try simp only [Act.put, List.setIfInBounds_toArray, List.set_cons_zero, List.set_cons_succ, List.getElem_toArray, List.getElem_cons_zero, List.getElem_cons_succ]
                have hsv : SchV w7 ss (.agg #[.string ov.s.name, .slice C7 (cut4 ov).s.cols.length cc7, .slice X7 (cut4 ov).s.ixs.length xc7]) := by rw [Hesch.out]; exact ⟨C7, cc7, X7, xc7, rfl, i1, i2, i4.rd, i5.rd⟩
                clear hH hb7 Hop16 i1 i2 i3 i4 i5 i6
                have hH := hH7
                clear hH7
                refine wpAnyH_one (i := 25) (by kernel_rfl) rfl (by rfl) fun K hK => ?_
                refine oper_field35 rfl rfl ?_
                refine hK _ _ hH ?_
                clear hK K
                try simp only [Act.put, List.setIfInBounds_toArray, List.set_cons_zero, List.set_cons_succ, List.getElem_toArray, List.getElem_cons_zero, List.getElem_cons_succ]
                refine wpAnyH_one (i := 26) (by kernel_rfl) rfl (by rfl) fun K hK => ?_
                refine oper_call (f := 35) (args := [.tmp 65, .tmp 71]) (vs := [.agg #[.string ss.name, .slice CA' ss.cols.length cc', .slice XA' ss.ixs.length xc'], .agg #[.string ov.s.name, .slice C7 (cut4 ov).s.cols.length cc7, .slice X7 (cut4 ov).s.ixs.length xc7]]) rfl rfl (by simp [invoke, go_sem]) (Hs35.out _ _ hH hsv) ?_
                rintro e w8 ⟨rfl, hb8⟩
                refine ⟨_, rfl, ?_⟩
                have hH8 : Below w5.heap.size w5 w8 := below_then hH hH.size hb8
                refine hK _ _ hH8 ?_
                clear hK K
                try simp only [Act.put, List.setIfInBounds_toArray, List.set_cons_zero, List.set_cons_succ, List.getElem_toArray, List.getElem_cons_zero, List.getElem_cons_succ]
                clear hH hb8 Hs35 hsv
                have hH := hH8
                clear hH8
                refine wpAnyH_yield (i := 27) (v := ?_) rfl (by kernel_rfl) (by kernel_rfl) (by kernel_rfl) (fun _ _ _ h => h) (by rfl) hH ?_ ?_
                rotate_left
                · (intro w' s0; obtain ⟨q0, q1, q2, q3, q4, q5, q6, q7, q8, q9, q10, q11, q12, q13, q14, q15, q16, q17, q18, q19, q20⟩ := HY.out w' s0; go_simp; try with_reducible rfl)
                simp only [Act.put, List.setIfInBounds_toArray, List.set_cons_zero, List.set_cons_succ, List.getElem_toArray, List.getElem_cons_zero, List.getElem_cons_succ]
                refine wpAnyH_yield (i := 28) (v := ?_) rfl (by kernel_rfl) (by kernel_rfl) (by kernel_rfl) (fun _ _ _ h => h) (by rfl) hH ?_ ?_
                rotate_left
                · (intro w' s0; obtain ⟨q0, q1, q2, q3, q4, q5, q6, q7, q8, q9, q10, q11, q12, q13, q14, q15, q16, q17, q18, q19, q20⟩ := HY.out w' s0; go_simp; try with_reducible rfl)
                simp only [Act.put, List.setIfInBounds_toArray, List.set_cons_zero, List.set_cons_succ, List.getElem_toArray, List.getElem_cons_zero, List.getElem_cons_succ]
                refine wpAnyH_done (by kernel_rfl) ?_ _
                have hdb5 := S5.out.lt
                have S8 := hide (S5.out.below hH)
                have V8 := hide (V5.out.below hH)
                have D8 := hide ((D5.out.below hH).congr (fun b hb => (foot_same (hH.block db hdb5) b).1 hb))
                have O8 := hide (O5.out.below hH)
                have hnames := S8.out.names (by omega)
                have Hnames := hide hnames
                have v0 := V8.out.c 0 (v := .slice A2 m2 c2) rfl
                clear hH hdb5 S5 V5 D5 O5 N5 P5 HY hnames Hesch Hcut Hov Hfit Hfo
                as_aux_lemma =>
                  go_wp2_with fail
                  refine Hnames.out.mono ?_
                  rintro e w9 ⟨ns, A3, c3, hns, rfl, hown3, hb9⟩
                  obtain rfl := ns_eq R5.out hns
                  have hDl : D2.length = m2 := by rw [← R5.out.len]; exact D8.out.1
                  rw [hDl] at hown3 ⊢
                  have hdb8 := S8.out.lt
                  have S9 := hide (S8.out.below hb9)
                  have V9 := hide (V8.out.below hb9)
                  have D9 := hide ((D8.out.below hb9).congr (fun b hb => (foot_same (hb9.block db hdb8) b).1 hb))
                  have O9 := hide (O8.out.below hb9)
                  have W9 := hide hown3
                  have v0 := V9.out.c 0 (v := .slice A2 m2 c2) rfl
                  clear hb9 hown3 hns S8 V8 D8 O8 Hnames hDl hdb8
                  have hbn : ((m2 : Int) != (m2 : Int)) = false := by simp
                  go_wp2_with fail
                  clear v0 hbn
                  go_loopw [11] (fun jv wz => ∃ j : Nat, j ≤ m2 ∧ jv = .int .i64 j ∧ Hid (Below w9.heap.size w9 wz)) (fun jv _ => m2 - (intOf jv).toNat)
                  case atStart => exact ⟨0, Nat.zero_le _, rfl, hide (Below.refl _ _)⟩
                  case round =>
                    obtain ⟨j, hj, rfl, HB⟩ := hrel
                    by_cases hjm : j < m2
                    rotate_left
                    · have hjm' : ¬ (j : Int) < (m2 : Int) := by omega
                      have hdb9 := S9.out.lt
                      have SA := hide (S9.out.below HB.out)
                      have VA := hide (V9.out.below HB.out)
                      have DA := hide ((D9.out.below HB.out).congr (fun b hb => (foot_same (HB.out.block db hdb9) b).1 hb))
                      have OA := hide (O9.out.below HB.out)
                      clear S9 V9 D9 O9 W9 HB
                      go_wp2_with fail
                      exact ⟨⟨k + 1, A2, m2, c2, W2, by omega, by go_num, hide (by rw [HD2.out]; exact SA.out.more (by omega)), VA, DA, hide (by rw [HD2.out]; exact R5.out), OA⟩, by simp [intOf]; omega⟩
                    have hjm' : (j : Int) < (m2 : Int) := by omega
                    have hj0 : ¬ (j : Int) < 0 := by omega
                    have hjW : j < W2.length := by rw [D9.out.1]; exact hjm
                    obtain ⟨U, hU⟩ : ∃ U, W2[j] = U := ⟨_, rfl⟩
                    have hUj : W2[j]? = some U := by rw [List.getElem?_eq_getElem hjW, hU]
                    obtain ⟨i, T, hf, hRT⟩ := R5.out.at_ hUj
                    obtain ⟨hTi, hTn⟩ := findT_at hf
                    have hlenT := hRT.len S9.out.ok hTi
                    have hUr := right_facts ((R5.out.okW S9.out.ok).right U (List.mem_of_getElem? hUj))
                    have hns := name_size hUr.nm
                    obtain ⟨tb, to_, TC, tcc, TX, txc, TR, trc, hA2, x0, x1, x2, x3, l1, l2, l3, hC, hX, hrows⟩ := D9.out.at_ j hjm hjW
                    rw [hU] at x0 x1 x2 x3 l1 l2 l3 hC hX
                    obtain ⟨g3, hA3, _, _⟩ := own_ptr W9.out (by omega)
                    have n0 : C wr g3 j (.string U.s.name) := C.below ((hA3 ▸ W9.out : w9.ownsRow _ 9 1 (.slice (some ⟨g3, 0, none⟩) m2 c3) m2 _).cellAt j (by omega) |>.trans (by rw [strs, List.getElem?_map, namesD, List.getElem?_map, hUj]; rfl)) HB.out
                    have SZ := S9.out.below HB.out
                    have hsch : Calls Tryz.prog 30 #[.pointer (some ⟨db, 0, none⟩), .string U.s.name] wr fun e w' => (∃ v, e = .returned (.tuple #[v, .int .i64 0]) ∧ SchV w' U.s v) ∧ Below wr.heap.size wr w' := (SZ.schemaP U.s.name (by omega)).mono fun e w' hp => ⟨by have h1 := hp.1; rw [SchP, hf] at h1; rw [hRT.s]; exact h1, hp.2⟩
                    have hlen : ∀ W', Below wr.heap.size wr W' → Calls Tryz.prog 22 #[.pointer (some ⟨db, 0, none⟩), .string U.s.name] W' fun e w' => e = .returned (.tuple #[.int .i64 U.rows.length, .int .i64 0]) ∧ Below W'.heap.size W' w' := fun W' hW => ((SZ.below hW).len U.s.name (by omega)).mono fun e w' hp => ⟨by have h1 := hp.1; rw [hf] at h1; simp only at h1; rw [hlenT]; exact h1, hp.2⟩
                    have v0 := (V9.out.below HB.out).c 0 (v := .slice A2 m2 c2) rfl
                    have HX := hide (And.intro (x0.below HB.out) (And.intro (x1.below HB.out) (And.intro (x2.below HB.out) (x3.below HB.out))))
                    have HCX := hide (And.intro (hC.below HB.out) (hX.below HB.out))
                    have hc3 := hUr.c3
                    have hx3 := hUr.x3
                    have Hsch := hide hsch
                    have Hlen := hide hlen
                    clear hrows x0 x1 x2 x3 hC hX hsch hlen SZ hUr hRT hf hTi hTn hlenT hns hU hUj hjW
                    subst hA3
                    as_aux_lemma =>
                      clear v0
                      go_wp2_with fail
                      refine Hsch.out.mono ?_
                      rintro e wa ⟨⟨sv, rfl, hsv⟩, hba⟩
                      obtain ⟨C1, cc1, X1, xc1, rfl, i1, i2, i3, i4⟩ := hsv
                      have hal := (Below.refl wa.heap.size wa).alloc (Nat.le_refl _) (.cells #[.string U.s.name, .slice C1 U.s.cols.length cc1, .slice X1 U.s.ixs.length xc1] 25)
                      have hbb := below_chain hba hal
                      have nb := Blk.new wa #[.string U.s.name, .slice C1 U.s.cols.length cc1, .slice X1 U.s.ixs.length xc1] 25
                      have NB := hide nb
                      have I3 := hide (i3.below hal)
                      have I4 := hide (i4.below hal)
                      have Hlen2 := hide (Hlen.out _ hbb)
                      have HBB := hide hbb
                      have n1 := n0.below hbb
                      have hsn : wa.heap.size < (wa.alloc (.cells #[.string U.s.name, .slice C1 U.s.cols.length cc1, .slice X1 U.s.ixs.length xc1] 25)).heap.size := by simp
                      clear hba hal hbb nb i3 i4 Hlen n0 Hsch
                      go_wp2_with fail
                      refine Hlen2.out.mono ?_
                      rintro e wb ⟨rfl, hbc⟩
                      have hbd := below_then HBB.out HBB.out.size hbc
                      obtain ⟨x0, x1, x2, x3⟩ := HX.out
                      have y0 := x0.below hbd
                      have y1 := x1.below hbd
                      have y2 := x2.below hbd
                      have y3 := x3.below hbd
                      have n2 := n1.below hbc
                      have v1 := ((V9.out.below HB.out).below hbd).c 0 (v := .slice A2 m2 c2) rfl
                      have nb := NB.out.below hbc
                      have s0 := nb.c 0 (v := .string U.s.name) rfl
                      have s1 := nb.c 1 (v := .slice C1 U.s.cols.length cc1) rfl
                      have s2 := nb.c 2 (v := .slice X1 U.s.ixs.length xc1) rfl
                      have hs36 : ∀ W', Below wb.heap.size wb W' → Calls Tryz.prog 36 #[.agg #[.string U.s.name, .slice C1 U.s.cols.length cc1, .slice X1 U.s.ixs.length xc1], .agg #[.string U.s.name, .slice TC U.s.cols.length tcc, .slice TX U.s.ixs.length txc]] W' fun e w' => e = .returned (.bool true) ∧ Below W'.heap.size W' w' := fun W' hW' => same36_eq U.s _ _ W' ⟨_, _, _, _, rfl, i1, i2, (I3.out.below hbc).below hW', (I4.out.below hbc).below hW'⟩ ⟨_, _, _, _, rfl, l1, l2, (HCX.out.1.below hbd).below hW', (HCX.out.2.below hbd).below hW'⟩ (by omega) (by omega)
                      have Hs36 := hide hs36
                      have HBD := hide (below_then HB.out HB.out.size hbd)
                      subst hA2
                      clear x0 x1 x2 x3 nb hs36 hbd n1 hbc I3 I4 NB HBB HX HCX Hlen2
                      as_aux_lemma =>
                        go_wp2_with fail
                        refine wp_region_bel (by kernel_rfl) (by kernel_rfl) ?_
                        intro X hX f hfb hfs
                        have z0 : ∀ x, (f x).cell? ⟨tb, to_ + j * 4, none⟩ = some (.string U.s.name) := fun x => y0.below (hfb x)
                        have z1 : ∀ x, (f x).cell? ⟨tb, to_ + j * 4 + 1, none⟩ = some (.slice TC U.s.cols.length tcc) := fun x => y1.below (hfb x)
                        have z2 : ∀ x, (f x).cell? ⟨tb, to_ + j * 4 + 2, none⟩ = some (.slice TX U.s.ixs.length txc) := fun x => y2.below (hfb x)
                        have z3 : ∀ x, (f x).cell? ⟨tb, to_ + j * 4 + 3, none⟩ = some (.slice TR U.rows.length trc) := fun x => y3.below (hfb x)
                        have z4 : ∀ x, (f x).cell? ⟨g3, j, none⟩ = some (.string U.s.name) := fun x => n2.below (hfb x)
                        have z5 : ∀ x, (f x).cell? ⟨w1.heap.size, 0, none⟩ = some (.slice (some ⟨tb, to_, none⟩) m2 c2) := fun x => v1.below (hfb x)
                        have z6 : ∀ x, (f x).cell? ⟨wa.heap.size, 0, none⟩ = some (.string U.s.name) := fun x => s0.below (hfb x)
                        have z7 : ∀ x, (f x).cell? ⟨wa.heap.size, 1, none⟩ = some (.slice C1 U.s.cols.length cc1) := fun x => s1.below (hfb x)
                        have z8 : ∀ x, (f x).cell? ⟨wa.heap.size, 2, none⟩ = some (.slice X1 U.s.ixs.length xc1) := fun x => s2.below (hfb x)
                        repeat (go_big_quiet_step ((refine (Hs36.out _ (hfb _)).mono ?_; rintro e w' ⟨rfl, hb⟩; exact ⟨rfl, hfs w' (below_then (hfb _) (hfb _).size hb)⟩)))
                        refine wpQuiet_nil ?_
                        rintro wc ⟨x, rfl⟩
                        have HBE := hide (below_then HBD.out HBD.out.size (hfb x))
                        clear z0 z1 z2 z3 z4 z5 z6 z7 z8 y0 y1 y2 y3 n2 v1 s0 s1 s2
                        go_wp2_with fail
                        exact ⟨⟨j + 1, by omega, by go_num, HBE⟩, by simp [intOf]; omega⟩
end Go.Proofs.YtekokogmnhlchaaGreatDoor
