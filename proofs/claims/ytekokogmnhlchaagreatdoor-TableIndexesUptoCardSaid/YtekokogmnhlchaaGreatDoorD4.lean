import Derived.Test.YtekokogmnhlchaaGreatDoorD2
set_option linter.unusedSimpArgs false
set_option linter.unusedVariables false
namespace Go.Proofs.YtekokogmnhlchaaGreatDoor
open Go.RowKit
def stepC (D : List Tb) (o : OpV) : List Tb := if o.k = 1 then creD D o.s else if o.k = 2 then insD D o.tb o.row else if o.k = 3 then updD D o.tb o.row else if o.k = 4 then delD D o.tb o.key else D
theorem runStep_eq (D : List Tb) (o : OpV) : runStep D o = stepC D (cut4 o) := rfl
set_option maxHeartbeats 6400000 in
set_option maxRecDepth 1000000 in
theorem run_any {B0 db sb n : Nat} {w0 w : World} {D : List Tb} (h : St B0 w0 w db sb n D) (A : Option Addr) (m c : Nat) (l : List OpV) (most : Nat) (ho : OpsAt B0 w A m l) (hf : FitL l) (hmost : most ≤ 1000) (hn : n ≤ 40000) (hm : m ≤ 1000000000) :
    Calls Tryz.prog 24 #[.pointer (some ⟨db, 0, none⟩), .slice A m c, .int .i64 most] w fun e w' => e = .returned (.tuple #[]) ∧ St B0 w0 w' db sb (n + 8 * most) (runD D (l.take most)) ∧ Upd db w w' := by
  have hl := ho.1
  have Hh := hide h
  have Ho := hide ho
  have Hf := hide hf
  clear h ho hf
  go_enter Tryz.func24, Tryz.ntmps24
  go_wp2_with fail
  go_loopw [6] (fun i wr => ∃ k : Nat, k ≤ min m most ∧ i = .int .i64 k ∧ Hid (St B0 w0 wr db sb (n + 8 * k) (runD D (l.take k))) ∧ Hid (Upd db w wr)) (fun i _ => (min m most) - (intOf i).toNat)
  case atStart => exact ⟨0, Nat.zero_le _, rfl, Hh, hide (Upd.refl _ _)⟩
  case round =>
    obtain ⟨k, hk, rfl, HS, HU⟩ := hrel
    by_cases hlt : k < m
    · by_cases hlm : k < most
      · have hkl : k < l.length := by omega
        obtain ⟨b, o, cs, hA, hop, h17, hc⟩ := (Ho.out.upd Hh.out HU.out).at_ k hkl
        cases hA
        obtain ⟨ov, hov⟩ : ∃ ov, l[k] = ov := ⟨_, rfl⟩
        have hfit := Hf.out ov (hov ▸ List.getElem_mem _)
        have htk : runD D (l.take (k + 1)) = stepC (runD D (l.take k)) (cut4 ov) := by rw [List.take_succ_eq_append_getElem hkl, hov, runD_snoc, runStep_eq]
        rw [hov] at hop
        have hopc := op_any B0 ov cs wr hop
        obtain ⟨CA, cc, XA, xc, RA, rc, rfl, k1, k2, k3, k4, k5, k6⟩ := hop
        have c0 := hc 0 (by omega)
        have c1 := hc 1 (by omega)
        have c2 := hc 2 (by omega)
        have c3 := hc 3 (by omega)
        have c4 := hc 4 (by omega)
        have c5 := hc 5 (by omega)
        have c6 := hc 6 (by omega)
        have c7 := hc 7 (by omega)
        have c8 := hc 8 (by omega)
        have c9 := hc 9 (by omega)
        have c10 := hc 10 (by omega)
        have c11 := hc 11 (by omega)
        have c12 := hc 12 (by omega)
        have c13 := hc 13 (by omega)
        have c14 := hc 14 (by omega)
        have c15 := hc 15 (by omega)
        have c16 := hc 16 (by omega)
        simp only [List.getElem?_cons_zero, List.getElem?_cons_succ, Nat.add_zero] at c0 c1 c2 c3 c4 c5 c6 c7 c8 c9 c10 c11 c12 c13 c14 c15 c16
        have Hopc := hide hopc
        have Hfit := hide (cut4_fit hfit)
        have Htk := hide htk
        clear hc k1 k2 k3 k4 k5 k6 hfit htk hopc hov h17
        have hlt' : (k : Int) < (m : Int) := by omega
        have hlm' : (k : Int) < (most : Int) := by omega
        obtain ⟨o', ho'⟩ : ∃ o', cut4 ov = o' := ⟨_, rfl⟩
        rw [ho'] at Hopc Hfit Htk
        obtain ⟨Dk, hDk⟩ : ∃ Dk, runD D (l.take k) = Dk := ⟨_, rfl⟩
        rw [hDk] at HS Htk
        clear ho' hDk
        go_wp2_with fail
        refine Hopc.out.mono ?_
        rintro e w2 ⟨cs', rfl, hop2, hb2⟩
        obtain ⟨kk, tt, ss, rr, ky, cq, lo, hi, lim⟩ := o'
        obtain ⟨CA', cc', XA', xc', RA', rc', rfl, k1, k2, k3, k4, k5, k6⟩ := hop2
        dsimp only at k1 k2 k3 k4 k5 k6 ⊢
        have hal := (Below.refl w2.heap.size w2).alloc (Nat.le_refl _) (.cells #[.int .i64 kk, .string tt, .string ss.name, .slice CA' ss.cols.length cc', .slice XA' ss.ixs.length xc', .slice RA' rr.length rc', .int .i64 ky.k, .int .i64 ky.n, .string ky.s, .int .i64 cq, .int .i64 lo.k, .int .i64 lo.n, .string lo.s, .int .i64 hi.k, .int .i64 hi.n, .string hi.s, .int .i64 lim] 35)
        have hnb := Blk.new w2 #[.int .i64 kk, .string tt, .string ss.name, .slice CA' ss.cols.length cc', .slice XA' ss.ixs.length xc', .slice RA' rr.length rc', .int .i64 ky.k, .int .i64 ky.n, .string ky.s, .int .i64 cq, .int .i64 lo.k, .int .i64 lo.n, .string lo.s, .int .i64 hi.k, .int .i64 hi.n, .string hi.s, .int .i64 lim] 35
        have hb3 := below_chain hb2 hal
        have S3 := hide (HS.out.below hb3)
        have U3 := hide (HU.out.trans (Upd.of_below hb3 HS.out.lt))
        have d0 := hnb.c 0 (v := .int .i64 kk) rfl
        have d1 := hnb.c 1 (v := .string tt) rfl
        have d2 := hnb.c 2 (v := .string ss.name) rfl
        have d3 := hnb.c 3 (v := .slice CA' ss.cols.length cc') rfl
        have d4 := hnb.c 4 (v := .slice XA' ss.ixs.length xc') rfl
        have d5 := hnb.c 5 (v := .slice RA' rr.length rc') rfl
        have d6 := hnb.c 6 (v := .int .i64 ky.k) rfl
        have d7 := hnb.c 7 (v := .int .i64 ky.n) rfl
        have d8 := hnb.c 8 (v := .string ky.s) rfl
        have HC := hide (k4.below hal)
        have HX := hide (k5.below hal)
        have HR := hide (k6.below hal)
        have hf' := Hfit.out
        have hmk : n + 8 * k ≤ 50000 := by omega
        clear hal hnb hb3 hb2 c0 c1 c2 c3 c4 c5 c6 c7 c8 c9 c10 c11 c12 c13 c14 c15 c16 Hopc hlt' hlm' k4 k5 k6
        by_cases q1 : kk = 1
        · subst q1
          as_aux_lemma =>
            have hc := S3.out.creA (s := ss) (sv := .agg #[.string ss.name, .slice CA' ss.cols.length cc', .slice XA' ss.ixs.length xc']) hmk (hf'.s.small (by omega)) ⟨_, _, _, _, rfl, k1, k2, HC.out.rd, HX.out.rd⟩
            have Hc := hide hc
            clear hc
            go_wp2_with fail
            refine Hc.out.mono ?_
            rintro e w4 ⟨rfl, hs4, hu4⟩
            have S4 := hide hs4
            have U4 := hide (U3.out.trans hu4)
            clear hs4 hu4 Hc d0 d1 d2 d3 d4 d5 d6 d7 d8
            go_wp2_with fail
            exact ⟨⟨k + 1, by omega, by go_num, hide (by rw [Htk.out]; exact S4.out.more (by omega)), U4⟩, by simp [intOf]; omega⟩
        · by_cases q2 : kk = 2
          · subst q2
            as_aux_lemma =>
              have hc := S3.out.ins (nm := tt) (row := rr) (A := RA') (m := rr.length) (c := rc') hmk (Nat.le_trans hf'.tb (by omega)) HR.out rfl (fun v hv => (hf'.row.1 v hv).2.1) (fun v hv => Nat.le_trans (hf'.row.1 v hv).2.2 (by omega))
              have Hc := hide hc
              clear hc
              go_wp2_with fail
              refine Hc.out.mono ?_
              rintro e w4 ⟨rfl, hs4, hu4⟩
              have S4 := hide hs4
              have U4 := hide (U3.out.trans hu4)
              clear hs4 hu4 Hc d0 d1 d2 d3 d4 d5 d6 d7 d8
              go_wp2_with fail
              exact ⟨⟨k + 1, by omega, by go_num, hide (by rw [Htk.out]; exact S4.out.more (by omega)), U4⟩, by simp [intOf]; omega⟩
          · by_cases q3 : kk = 3
            · subst q3
              as_aux_lemma =>
                have hc := S3.out.upd (nm := tt) (row := rr) (A := RA') (m := rr.length) (c := rc') hmk (Nat.le_trans hf'.tb (by omega)) HR.out rfl (fun v hv => (hf'.row.1 v hv).2.1) (fun v hv => Nat.le_trans (hf'.row.1 v hv).2.2 (by omega))
                have Hc := hide hc
                clear hc
                go_wp2_with fail
                refine Hc.out.mono ?_
                rintro e w4 ⟨rfl, hs4, hu4⟩
                have S4 := hide hs4
                have U4 := hide (U3.out.trans hu4)
                clear hs4 hu4 Hc d0 d1 d2 d3 d4 d5 d6 d7 d8
                go_wp2_with fail
                exact ⟨⟨k + 1, by omega, by go_num, hide (by rw [Htk.out]; exact S4.out.more (by omega)), U4⟩, by simp [intOf]; omega⟩
            · by_cases q4 : kk = 4
              · subst q4
                as_aux_lemma =>
                  have hc : Calls Tryz.prog 23 #[.pointer (some ⟨db, 0, none⟩), .string tt, .agg #[.int .i64 ky.k, .int .i64 ky.n, .string ky.s]] _ _ := S3.out.del tt ky hmk hf'.key.2.1 (Nat.le_trans hf'.key.2.2 (by omega)) (Nat.le_trans hf'.tb (by omega))
                  have Hc := hide hc
                  clear hc
                  go_wp2_with fail
                  refine Hc.out.mono ?_
                  rintro e w4 ⟨rfl, hs4, hu4⟩
                  have S4 := hide hs4
                  have U4 := hide (U3.out.trans hu4)
                  clear hs4 hu4 Hc d0 d1 d2 d3 d4 d5 d6 d7 d8
                  go_wp2_with fail
                  exact ⟨⟨k + 1, by omega, by go_num, hide (by rw [Htk.out]; exact S4.out.more (by omega)), U4⟩, by simp [intOf]; omega⟩
              · as_aux_lemma =>
                  have hst : stepC Dk ⟨kk, tt, ss, rr, ky, cq, lo, hi, lim⟩ = Dk := by rw [stepC, if_neg q1, if_neg q2, if_neg q3, if_neg q4]
                  have Hst := hide hst
                  clear hst
                  go_wp2_with fail
                  exact ⟨⟨k + 1, by omega, by go_num, hide (by rw [Htk.out, Hst.out]; exact S3.out.more (by omega)), U3⟩, by simp [intOf]; omega⟩
      · have hke : k = most := by omega
        subst hke
        have hlt' : (k : Int) < (m : Int) := by omega
        have hlm' : ¬ (k : Int) < (k : Int) := by omega
        go_wp2_with fail
        go_end0
        exact ⟨rfl, HS.out, HU.out⟩
    · have hke : k = m := by omega
      have hlt' : ¬ (k : Int) < (m : Int) := by omega
      have htk : l.take most = l.take k := by rw [List.take_of_length_le (by omega), List.take_of_length_le (by omega)]
      have Htk := hide htk
      have Hke := hide hke
      clear htk hke
      go_wp2_with fail
      go_end0
      exact ⟨rfl, by rw [Htk.out]; exact HS.out.more (by omega), HU.out⟩
end Go.Proofs.YtekokogmnhlchaaGreatDoor
