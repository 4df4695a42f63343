import Derived.Test.YtekokogmnhlchaaGreatDoorD3
import Derived.Test.YtekokogmnhlchaaGreatDoorB5
import Derived.Deep.CutBlock
set_option linter.unusedSimpArgs false
set_option linter.unusedVariables false
namespace Go.Proofs.YtekokogmnhlchaaGreatDoor
open Go.RowKit
theorem cells_arr {w : World} {b off : Nat} {cs : Array Value} (hc : ∀ i, i < 17 → w.cell? ⟨b, off + i, none⟩ = cs.toList[i]?) (hs : cs.size = 17) : ∀ (j : Nat) (v : Value), cs[j]? = some v → w.cell? ⟨b, off + j, none⟩ = some v := fun j v hv => by
  have hj : j < cs.size := (Array.getElem?_eq_some_iff.1 hv).1
  rw [hc j (by omega), Array.getElem?_toList, hv]
set_option maxHeartbeats 6400000 in
set_option maxRecDepth 1000000 in
theorem count_ok (A : Option Addr) (m c : Nat) (l : List OpV) (w : World) (ho : OpsAt w.heap.size w A m l) (hf : FitL l) (hT : Tabs w) :
    Calls Tryz.prog 7 #[.slice A m c] w fun e w' => e = .returned (.bool true) ∧ Below w.heap.size w w' := by
  have hl := ho.1
  have HT := hide hT
  have Ho := hide ho
  have Hf := hide hf
  clear hT ho hf
  go_enter Tryz.func7, Tryz.ntmps7
  go_wp2_with fail
  refine (lnew_ok _).mono ?_
  rintro e w1 ⟨db, sb, rfl, hd, hb⟩
  have S1 := hide (St.new hd hb HT.out HT.out.three)
  have Hb1 := hide hb
  clear hd hb
  go_wp2_with fail
  have hal := ((Below.refl w1.heap.size w1).alloc (Nat.le_refl _) (.cells #[] 9))
  have hal2 := hal.alloc hal.size (.cells #[] 3)
  have hN := World.ownsRow_lit (base := w.heap.size) (e := 9) (size := 1) w1 #[] 0 S1.out.le (by decide) rfl
  have hK := World.ownsRow_lit (base := w.heap.size) (e := 3) (size := 1) (w1.alloc (.cells #[] 9)) #[] 0 (Nat.le_trans S1.out.le (by simp)) (by decide) rfl
  rw [show (w1.alloc (.cells #[] 9)).heap.size = w1.heap.size + 1 by simp] at hK
  have S2 := hide (S1.out.below hal2)
  have I2 : Hid (Inv w.heap.size ((w1.alloc (.cells #[] 9)).alloc (.cells #[] 3)) (.slice (some ⟨w1.heap.size, 0, none⟩) 0 0) (.slice (some ⟨w1.heap.size + 1, 0, none⟩) 0 0) []) :=
    hide ⟨hN.alloc _, hK, fun g hg => by simp [Value.ownBlock] at hg ⊢; omega, ⟨_, _, rfl⟩, ⟨_, _, rfl⟩⟩
  have O2 := hide (Ho.out.below (below_chain Hb1.out hal2))
  clear hal hal2 hN hK
  go_loopw [5, 6, 7] (fun nv cv i wr => ∃ (k : Nat) (D : List Tb), k ≤ min m 40 ∧ i = .int .i64 k ∧ Hid (St w.heap.size w wr db sb (8 * k) D) ∧ Hid (Inv w.heap.size wr nv cv D) ∧ Hid (OpsAt w.heap.size wr A m l)) (fun _ _ i _ => (min m 40) - (intOf i).toNat)
  case atStart => exact ⟨0, [], Nat.zero_le _, rfl, S2, I2, O2⟩
  case round =>
    clear S1 S2 I2 O2 Hb1 Ho
    obtain ⟨k, D, hk, rfl, HS, HI, HO⟩ := hrel
    by_cases hlt : k < m
    · by_cases hlm : k < 40
      · have hkl : k < l.length := by omega
        obtain ⟨b, o, cs, hA, hop, h17, hc⟩ := HO.out.at_ k hkl
        cases hA
        obtain ⟨ov, hov⟩ : ∃ ov, l[k] = ov := ⟨_, rfl⟩
        have hfit := Hf.out ov (hov ▸ List.getElem_mem _)
        rw [hov] at hop
        have hopc := op_any w.heap.size ov cs wr hop
        obtain ⟨CA, cc, XA, xc, RA, rc, rfl, k1, k2, k3, k4, k5, k6⟩ := hop
        have Hc := hide (cells_arr (cs := #[.int .i64 ov.k, .string ov.tb, .string ov.s.name, .slice CA ov.s.cols.length cc, .slice XA ov.s.ixs.length xc, .slice RA ov.row.length rc, .int .i64 ov.key.k, .int .i64 ov.key.n, .string ov.key.s, .int .i64 ov.c, .int .i64 ov.lo.k, .int .i64 ov.lo.n, .string ov.lo.s, .int .i64 ov.hi.k, .int .i64 ov.hi.n, .string ov.hi.s, .int .i64 ov.lim]) hc rfl)
        have Hopc := hide hopc
        have Hfit := hide (cut4_fit hfit)
        clear hc k1 k2 k3 k4 k5 k6 hfit hopc hov h17
        have hlt' : (k : Int) < (m : Int) := by omega
        have hlm' : (k : Int) < 40 := by omega
        obtain ⟨o', ho'⟩ : ∃ o', cut4 ov = o' := ⟨_, rfl⟩
        rw [ho'] at Hopc Hfit
        clear ho'
        obtain ⟨dn, hdn⟩ : ∃ dn, D.length = dn := ⟨_, rfl⟩
        go_upto_region 9 with (fail)
        refine wp_region_lit (l := [_, _, _, _, _, _, _]) ?_
        refine wpList_plain rfl fun _ hK => oper_move rfl rfl (hK _ _ ?_)
        refine wpList_plain rfl fun _ hK => oper_move rfl rfl (hK _ _ ?_)
        refine wpList_plain rfl fun _ hK => oper_index52 rfl rfl rfl hlt (hK _ _ ?_)
        refine wpList_plain rfl fun _ hK => oper_load_at rfl rfl Hc.out Tryz.underlying35 rfl (by kernel_rfl) (hK _ _ ?_)
        refine wpList_plain rfl fun _ hK => oper_call (f := 16) (args := [.tmp 34]) rfl rfl (by simp [go_sem]) Hopc.out ?_
        rintro e w2 ⟨cs', rfl, hop2, hb2⟩
        refine ⟨_, rfl, hK _ _ ?_⟩
        clear hK
        go_simp
        obtain ⟨kk, tt, ss, rr, ky, cq, lo, hi, lim⟩ := o'
        obtain ⟨CA', cc', XA', xc', RA', rc', rfl, k1, k2, k3, k4, k5, k6⟩ := hop2
        dsimp only at k1 k2 k3 k4 k5 k6 ⊢
        have hal := (Below.refl w2.heap.size w2).alloc (Nat.le_refl _) (.cells #[.int .i64 kk, .string tt, .string ss.name, .slice CA' ss.cols.length cc', .slice XA' ss.ixs.length xc', .slice RA' rr.length rc', .int .i64 ky.k, .int .i64 ky.n, .string ky.s, .int .i64 cq, .int .i64 lo.k, .int .i64 lo.n, .string lo.s, .int .i64 hi.k, .int .i64 hi.n, .string hi.s, .int .i64 lim] 35)
        have hnb := Blk.new w2 #[.int .i64 kk, .string tt, .string ss.name, .slice CA' ss.cols.length cc', .slice XA' ss.ixs.length xc', .slice RA' rr.length rc', .int .i64 ky.k, .int .i64 ky.n, .string ky.s, .int .i64 cq, .int .i64 lo.k, .int .i64 lo.n, .string lo.s, .int .i64 hi.k, .int .i64 hi.n, .string hi.s, .int .i64 lim] 35
        have hb3 := below_chain hb2 hal
        have S3 := hide (HS.out.below hb3)
        have I3 := hide (HI.out.below hb3)
        have O3 := hide (HO.out.below hb3)
        have HC := hide (k4.below hal)
        have HX := hide (k5.below hal)
        have HR := hide (k6.below hal)
        have Hnb := hide hnb
        clear hal hnb hb3 hb2 Hc Hopc k4 k5 k6 HS HI HO
        refine wpList_plain rfl fun _ hK => oper_alloc rfl (z := #[.int .i64 0, .string ⟨#[]⟩, .string ⟨#[]⟩, .slice none 0 0, .slice none 0 0, .slice none 0 0, .int .i64 0, .int .i64 0, .string ⟨#[]⟩, .int .i64 0, .int .i64 0, .int .i64 0, .string ⟨#[]⟩, .int .i64 0, .int .i64 0, .string ⟨#[]⟩, .int .i64 0]) (by kernel_rfl) (hK _ _ ?_)
        go_simp
        refine wpList_plain rfl fun _ hK => oper_store_row (b := w2.heap.size) (old := #[.int .i64 0, .string ⟨#[]⟩, .string ⟨#[]⟩, .slice none 0 0, .slice none 0 0, .slice none 0 0, .int .i64 0, .int .i64 0, .string ⟨#[]⟩, .int .i64 0, .int .i64 0, .int .i64 0, .string ⟨#[]⟩, .int .i64 0, .int .i64 0, .string ⟨#[]⟩, .int .i64 0]) (cs := #[.int .i64 kk, .string tt, .string ss.name, .slice CA' ss.cols.length cc', .slice XA' ss.ixs.length xc', .slice RA' rr.length rc', .int .i64 ky.k, .int .i64 ky.n, .string ky.s, .int .i64 cq, .int .i64 lo.k, .int .i64 lo.n, .string lo.s, .int .i64 hi.k, .int .i64 hi.n, .string hi.s, .int .i64 lim]) (t := 35) rfl rfl rfl (Blk.new w2 #[.int .i64 0, .string ⟨#[]⟩, .string ⟨#[]⟩, .slice none 0 0, .slice none 0 0, .slice none 0 0, .int .i64 0, .int .i64 0, .string ⟨#[]⟩, .int .i64 0, .int .i64 0, .int .i64 0, .string ⟨#[]⟩, .int .i64 0, .int .i64 0, .string ⟨#[]⟩, .int .i64 0] 35) (by kernel_rfl) rfl (by simp [Value.oneCell']) (hK _ _ ?_)
        refine wpList_nil ?_
        rw [World.setRow_alloc_new]
        go_simp
        go_simp
        obtain ⟨An, cn, rfl⟩ := I3.out.nf
        obtain ⟨Ac, cc2, rfl⟩ := I3.out.kf
        obtain ⟨pb, hpb⟩ : ∃ pb, w2.heap.size = pb := ⟨_, rfl⟩
        rw [hpb] at Hnb
        rw [hdn] at I3 ⊢
        obtain ⟨W3, hW3⟩ : ∃ W3, (w2.alloc (.cells #[.int .i64 kk, .string tt, .string ss.name, .slice CA' ss.cols.length cc', .slice XA' ss.ixs.length xc', .slice RA' rr.length rc', .int .i64 ky.k, .int .i64 ky.n, .string ky.s, .int .i64 cq, .int .i64 lo.k, .int .i64 lo.n, .string lo.s, .int .i64 hi.k, .int .i64 hi.n, .string hi.s, .int .i64 lim] 35)) = W3 := ⟨_, rfl⟩
        rw [hW3] at S3 I3 O3 HC HX HR Hnb ⊢
        rw [hpb]
        clear hW3 hpb
        have hd4 : dn ≤ 4 := by have := S3.out.ok.n4; omega
        have Hdn := hide hdn
        clear hdn
        go_upto_block 2 with fail
        go_cut [9] (fun kv wx => ∃ q : Nat, kv = .int .i64 q ∧ Hid (Found D tt q) ∧ Hid (Below W3.heap.size W3 wx))
        case first =>
          go_wp2_with fail
          go_loopw [9] (fun kv wr' => ∃ q : Nat, kv = .int .i64 q ∧ Hid (Sought D tt q) ∧ Hid (Below W3.heap.size W3 wr')) (fun kv _ => dn - (intOf kv).toNat)
          case atStart => exact ⟨0, rfl, hide (Sought.zero _ _), hide (Below.refl _ _)⟩
          case round =>
            obtain ⟨q, rfl, HQ, HB⟩ := hrel
            have hql : q ≤ dn := by have := HQ.out.1; have := Hdn.out; omega
            by_cases hq : q < dn
            · have hqD : q < D.length := by have := Hdn.out; omega
              obtain ⟨g, cg, hnv, hcell⟩ := (I3.out.below HB.out).name hqD
              obtain ⟨nm, hnm⟩ : ∃ nm, (namesD D)[q]'(by rw [namesD_len]; exact hqD) = nm := ⟨_, rfl⟩
              rw [hnm] at hcell
              injection hnv with e1 e2 e3
              subst e1 e3
              have htt := (Hnb.out.below HB.out).c 1 (v := .string tt) rfl
              have hqi : (q : Int) < (dn : Int) := by omega
              by_cases he : nm = tt
              · have HF := hide (HQ.out.found hqD (hnm.trans he))
                subst he
                clear hnm e2
                go_wp2_with fail
                go_quiet ((fail))
                all_goals
                  go_wp2_with fail
                  go_meet
                  exact ⟨q, rfl, HF, hide (below_drewN HB.out _)⟩
              · have HF := hide (HQ.out.succ hqD (by rw [hnm]; exact he))
                have hne : (nm.toList == tt.toList) = false := by
                  rw [beq_eq_false_iff_ne]
                  intro h
                  rw [ByteArray.toList_eq, ByteArray.toList_eq] at h
                  exact he (bytes_inj h)
                have hne2 : (nm.toList != tt.toList) = true := by simp [bne, hne]
                clear hnm e2 he
                go_wp2_with fail
                go_quiet ((fail))
                all_goals
                  go_wp2_with fail
                  exact ⟨⟨q + 1, by go_num, HF, hide (below_drewN HB.out _)⟩, by simp [intOf]; omega⟩
            · have hqe : q = dn := by omega
              have HF := hide (by have h1 := HQ.out; rw [hqe, ← Hdn.out] at h1; have h2 := h1.none; rw [Hdn.out, ← hqe] at h2; exact h2 : Found D tt q)
              have hqi : ¬ (q : Int) < (dn : Int) := by omega
              have hqb : decide ((q : Int) < (dn : Int)) = false := by simpa using hqi
              clear hqe
              go_wp2_with fail
              go_quiet ((fail))
              all_goals
                go_wp2_with fail
                go_meet
                exact ⟨q, rfl, HF, hide (below_drewN HB.out _)⟩
        case rest =>
          obtain ⟨q, rfl, HF, HB⟩ := hcut
          have S4 := hide (S3.out.below HB.out)
          have I4 := hide (I3.out.below HB.out)
          have O4 := hide (O3.out.below HB.out)
          have HC4 := hide (HC.out.below HB.out)
          have HX4 := hide (HX.out.below HB.out)
          have HR4 := hide (HR.out.below HB.out)
          have Hnb4 := hide (Hnb.out.below HB.out)
          clear S3 I3 O3 HC HX HR Hnb HB
          have d0 := Hnb4.out.c 0 (v := .int .i64 kk) rfl
          go_upto_block 4 with fail
          have d1 := Hnb4.out.c 1 (v := .string tt) rfl
          have d2 := Hnb4.out.c 2 (v := .string ss.name) rfl
          have d3 := Hnb4.out.c 3 (v := .slice CA' ss.cols.length cc') rfl
          have d4 := Hnb4.out.c 4 (v := .slice XA' ss.ixs.length xc') rfl
          have d5 := Hnb4.out.c 5 (v := .slice RA' rr.length rc') rfl
          have d6 := Hnb4.out.c 6 (v := .int .i64 ky.k) rfl
          have d7 := Hnb4.out.c 7 (v := .int .i64 ky.n) rfl
          have d8 := Hnb4.out.c 8 (v := .string ky.s) rfl
          have hf' := Hfit.out
          have hmk : 8 * k ≤ 50000 := by omega
          go_cut [5, 6] (fun nv cv wx' => ∃ D', Hid (St w.heap.size w wx' db sb (8 * k + 8) D') ∧ Hid (Inv w.heap.size wx' nv cv D') ∧ Hid (OpsAt w.heap.size wx' (some ⟨b, o, none⟩) m l))
          case first =>
            by_cases q1 : kk = 1
            · subst q1
              as_aux_lemma =>
                have hc := S4.out.creA (s := ss) (sv := .agg #[.string ss.name, .slice CA' ss.cols.length cc', .slice XA' ss.ixs.length xc']) hmk (hf'.s.small (by omega)) ⟨_, _, _, _, rfl, k1, k2, HC4.out.rd, HX4.out.rd⟩
                have Hc := hide hc
                clear hc
                go_wp2_with fail
                refine Hc.out.mono ?_
                rintro e w4 ⟨rfl, hs4, hu4⟩
                have S5 := hide hs4
                have I5 := hide (I4.out.upd S4.out hu4)
                have O5 := hide (O4.out.upd S4.out hu4)
                have e2 := (S4.out.blk Hnb4.out (by decide) (by decide) hu4).c 2 (v := .string ss.name) rfl
                have hcc := cre_cnt D ss
                obtain ⟨ce, hce⟩ : ∃ ce, creE D ss = ce := ⟨_, rfl⟩
                obtain ⟨D', hD'⟩ : ∃ D', creD D ss = D' := ⟨_, rfl⟩
                rw [hce, hD'] at hcc
                rw [hce]
                rw [hD'] at S5
                clear hs4 hu4 Hc d0 d1 d2 d3 d4 d5 d6 d7 d8 hce hD' hf'
                by_cases hz : ce = 0
                · subst hz
                  have Hcc := hide (hcc.1 rfl)
                  clear hcc
                  have HN := hide (by have := I5.out.N; rw [Hdn.out] at this; exact this : w4.ownsRow w.heap.size 9 1 (.slice An dn cn) dn (strs (namesD D)))
                  have hz5 : w.heap.size ≤ w4.heap.size := S5.out.le
                  have hdn1 : dn + 1 ≤ 4294967296 := by omega
                  go_wp2_with (first
                    | (at_builtin; refine wp_lit2 strT rfl rfl HN.out rfl rfl (by simp) (by rfl) (by simp [Value.oneCell']) hdn1 (by omega) hz5 ?_; intro A5 c5 w5 hown5 hb5 hg5 hat5; have HK5 := hide (by have := I5.out.keptK hg5; rw [Hdn.out] at this; exact this : w5.ownsRow w.heap.size 3 1 (.slice Ac dn cc2) dn (ints (cntsD D))); have hz6 := Nat.le_trans hz5 hg5.size; have Hown5 := hide hown5; have Hg5 := hide hg5; have Hat5 := hide hat5; clear hown5 hg5 hat5 hb5)
                    | (at_builtin; refine wp_lit2 intT rfl rfl HK5.out rfl rfl (by simp) (by rfl) (by simp [Value.oneCell']) hdn1 (by omega) hz6 ?_; intro A6 c6 w6 hown6 hb6 hg6 hat6)
                    | fail)
                  go_meet
                  have hdn := Hdn.out
                  subst hdn
                  obtain ⟨hn, hcn⟩ := Hcc.out
                  refine ⟨D', hide ((S5.out.grown HN.out (.inl rfl) Hg5.out).grown HK5.out (.inr (.inl rfl)) hg6), hide (I5.out.push Hown5.out Hg5.out Hat5.out hown6 hg6 hat6 ?_ hn hcn), hide ((O5.out.grown HN.out (.inl rfl) Hg5.out).grown HK5.out (.inr (.inl rfl)) hg6)⟩
                  have := congrArg List.length hn
                  simpa [namesD_len] using this
                · have hDD := hcc.2 hz
                  rw [hDD] at S5
                  have hzb : (ce == 0) = false := by simpa using hz
                  clear hcc hDD
                  go_wp2_with fail
                  go_meet
                  exact ⟨D, S5, I5, O5⟩
            · by_cases q2 : kk = 2
              · subst q2
                as_aux_lemma =>
                  have hc := S4.out.ins (nm := tt) (row := rr) (A := RA') (m := rr.length) (c := rc') hmk (Nat.le_trans hf'.tb (by omega)) HR4.out rfl (fun v hv => (hf'.row.1 v hv).2.1) (fun v hv => Nat.le_trans (hf'.row.1 v hv).2.2 (by omega))
                  have Hc := hide hc
                  clear hc
                  go_wp2_with fail
                  refine Hc.out.mono ?_
                  rintro e w4 ⟨rfl, hs4, hu4⟩
                  have S5 := hide hs4
                  have I5 := hide (I4.out.upd S4.out hu4)
                  have O5 := hide (O4.out.upd S4.out hu4)
                  have hcc := ins_cnt (row := rr) HF.out
                  obtain ⟨ce, hce⟩ : ∃ ce, insE D tt rr = ce := ⟨_, rfl⟩
                  obtain ⟨D', hD'⟩ : ∃ D', insD D tt rr = D' := ⟨_, rfl⟩
                  rw [hce, hD'] at hcc
                  rw [hce]
                  rw [hD'] at S5
                  clear hs4 hu4 Hc d0 d1 d2 d3 d4 d5 d6 d7 d8 hce hD' hf'
                  by_cases hz : ce = 0
                  · subst hz
                    obtain ⟨c0, hqD, hcq, hn, hcn⟩ := hcc.1 rfl
                    have hb := cnt_bnd S4.out.ok hcq
                    have hqn : ((q : Int) == (dn : Int)) = false := by have := Hdn.out; simp; omega
                    have hqd : (q : Int) < (dn : Int) := by have := Hdn.out; omega
                    obtain ⟨g, cg, hcv, hcell, hfz⟩ := I5.out.cnt hqD hcq
                    injection hcv with e1 e2 e3
                    subst e1 e3
                    have Hn := hide hn
                    have Hcn := hide hcn
                    clear hn hcn hcc hcq hqD e2
                    go_wp2_with fail
                    go_meet
                    have hdn := Hdn.out
                    subst hdn
                    have hst := I5.out.store q (c0 + 1) Hn.out Hcn.out
                    exact ⟨D', hide (S5.out.grown I5.out.K (.inr (.inl rfl)) hst.2), hide hst.1, hide (O5.out.grown I5.out.K (.inr (.inl rfl)) hst.2)⟩
                  · have hDD := hcc.2 hz
                    rw [hDD] at S5
                    have hzb : (ce == 0) = false := by simpa using hz
                    clear hcc hDD
                    go_wp2_with fail
                    go_meet
                    exact ⟨D, S5, I5, O5⟩
              · by_cases q4 : kk = 4
                · subst q4
                  as_aux_lemma =>
                    have hc : Calls Tryz.prog 23 #[.pointer (some ⟨db, 0, none⟩), .string tt, .agg #[.int .i64 ky.k, .int .i64 ky.n, .string ky.s]] _ _ := S4.out.del tt ky hmk hf'.key.2.1 (Nat.le_trans hf'.key.2.2 (by omega)) (Nat.le_trans hf'.tb (by omega))
                    have Hc := hide hc
                    clear hc
                    go_wp2_with fail
                    refine Hc.out.mono ?_
                    rintro e w4 ⟨rfl, hs4, hu4⟩
                    have S5 := hide hs4
                    have I5 := hide (I4.out.upd S4.out hu4)
                    have O5 := hide (O4.out.upd S4.out hu4)
                    have hcc := del_cnt (v := ky) S4.out.ok HF.out
                    obtain ⟨ce, hce⟩ : ∃ ce, delE D tt ky = ce := ⟨_, rfl⟩
                    obtain ⟨D', hD'⟩ : ∃ D', delD D tt ky = D' := ⟨_, rfl⟩
                    rw [hce, hD'] at hcc
                    rw [hce]
                    rw [hD'] at S5
                    clear hs4 hu4 Hc d0 d1 d2 d3 d4 d5 d6 d7 d8 hce hD' hf'
                    by_cases hz : ce = 0
                    · subst hz
                      obtain ⟨c0, hqD, hcq, hn, hcn⟩ := hcc.1 rfl
                      have hb := cnt_bnd S4.out.ok hcq
                      have hqn : ((q : Int) == (dn : Int)) = false := by have := Hdn.out; simp; omega
                      have hqd : (q : Int) < (dn : Int) := by have := Hdn.out; omega
                      obtain ⟨g, cg, hcv, hcell, hfz⟩ := I5.out.cnt hqD hcq
                      injection hcv with e1 e2 e3
                      subst e1 e3
                      have Hn := hide hn
                      have Hcn := hide hcn
                      clear hn hcn hcc hcq hqD e2
                      go_wp2_with fail
                      go_meet
                      have hdn := Hdn.out
                      subst hdn
                      have hst := I5.out.store q (c0 - 1) Hn.out Hcn.out
                      exact ⟨D', hide (S5.out.grown I5.out.K (.inr (.inl rfl)) hst.2), hide hst.1, hide (O5.out.grown I5.out.K (.inr (.inl rfl)) hst.2)⟩
                    · have hDD := hcc.2 hz
                      rw [hDD] at S5
                      have hzb : (ce == 0) = false := by simpa using hz
                      clear hcc hDD
                      go_wp2_with fail
                      go_meet
                      exact ⟨D, S5, I5, O5⟩
                · by_cases q3 : kk = 3
                  · subst q3
                    as_aux_lemma =>
                      have hc := S4.out.upd (nm := tt) (row := rr) (A := RA') (m := rr.length) (c := rc') hmk (Nat.le_trans hf'.tb (by omega)) HR4.out rfl (fun v hv => (hf'.row.1 v hv).2.1) (fun v hv => Nat.le_trans (hf'.row.1 v hv).2.2 (by omega))
                      have Hc := hide hc
                      clear hc
                      go_wp2_with fail
                      refine Hc.out.mono ?_
                      rintro e w4 ⟨rfl, hs4, hu4⟩
                      have S5 := hide hs4
                      have I5 := hide (I4.out.upd S4.out hu4)
                      have O5 := hide (O4.out.upd S4.out hu4)
                      have hcn := upd_cnt D tt rr S4.out.ok
                      have I6 := hide (I5.out.same hcn.1 hcn.2)
                      clear hs4 hu4 Hc d0 d1 d2 d3 d4 d5 d6 d7 d8 hcn
                      go_wp2_with fail
                      go_meet
                      exact ⟨_, S5, I6, O5⟩
                  · as_aux_lemma =>
                      go_wp2_with fail
                      go_meet
                      exact ⟨D, hide (S4.out.more (by omega)), I4, O4⟩
          case rest =>
            obtain ⟨D', S5, I5, O5⟩ := hcut
            clear S4 I4 O4 HC4 HX4 HR4 Hnb4 HF hf' d0 d1 d2 d3 d4 d5 d6 d7 d8
            obtain ⟨A6, c6, rfl⟩ := I5.out.nf
            obtain ⟨A7, c7, rfl⟩ := I5.out.kf
            obtain ⟨dn2, hdn2⟩ : ∃ dn, D'.length = dn := ⟨_, rfl⟩
            rw [hdn2] at I5 ⊢
            have h24 : dn2 ≤ 4 := by have := S5.out.ok.n4; omega
            have Hdn2 := hide hdn2
            clear hdn2
            as_aux_lemma =>
              go_wp2_with fail
              go_loopw [10] (fun jv wz => ∃ j : Nat, j ≤ dn2 ∧ jv = .int .i64 j ∧ Hid (Below wc.heap.size wc wz)) (fun jv _ => dn2 - (intOf jv).toNat)
              case atStart => exact ⟨0, Nat.zero_le _, rfl, hide (Below.refl _ _)⟩
              case round =>
                obtain ⟨j, hj, rfl, HBj⟩ := hrel
                by_cases hjl : j < dn2
                · have hjD : j < D'.length := by have := Hdn2.out; omega
                  obtain ⟨g, cg, hnv, hcell⟩ := (I5.out.below HBj.out).name hjD
                  obtain ⟨T, hfT, hcT, h64⟩ := len_at S5.out.ok hjD
                  obtain ⟨g', cg', hcv, _, _⟩ := I5.out.cnt hjD hcT
                  have hsz : ((namesD D')[j]'(by rw [namesD_len]; exact hjD)).size ≤ 9223372036854775807 := by
                    have h1 := name_size (right_facts (S5.out.ok.right j D'[j] (List.getElem?_eq_getElem hjD))).nm
                    simp only [namesD, List.getElem_map]
                    omega
                  have hcon := (S5.out.below HBj.out).len _ hsz
                  rw [hfT] at hcon
                  obtain ⟨nm, hnm⟩ : ∃ nm, (namesD D')[j]'(by rw [namesD_len]; exact hjD) = nm := ⟨_, rfl⟩
                  rw [hnm] at hcell hcon
                  obtain ⟨tn, htn⟩ : ∃ tn, T.rows.length = tn := ⟨_, rfl⟩
                  simp only [htn] at hcon hcT h64
                  injection hnv with e1 e2 e3
                  injection hcv with e4 e5 e6
                  subst e1 e3 e4 e6
                  have hji : (j : Int) < (dn2 : Int) := by omega
                  have ht0 : ¬ (tn : Int) < 0 := by omega
                  have ht1 : ¬ (64 : Int) < (tn : Int) := by omega
                  have Hcon := hide hcon
                  have HcT := hide hcT
                  clear hcon hcT hfT htn hnm hsz hjD e2 e5
                  go_wp2_with fail
                  refine Hcon.out.mono ?_
                  rintro e w7 ⟨rfl, hb7⟩
                  have HB7 := hide (below_then HBj.out HBj.out.size hb7)
                  obtain ⟨g2, cg2, hcv2, hcell2, _⟩ := (I5.out.below HB7.out).cnt (by have := Hdn2.out; omega) HcT.out
                  injection hcv2 with e4 e5 e6
                  injection e4 with e4
                  injection e4 with e7 e8 e9
                  subst e7
                  clear hb7 Hcon hcell e5 e6 e8 e9
                  go_wp2_with fail
                  exact ⟨⟨j + 1, by omega, by go_num, HB7⟩, by simp [intOf]; omega⟩
                · have hje : j = dn2 := by omega
                  have hji : ¬ (j : Int) < (dn2 : Int) := by omega
                  have S6 := hide (S5.out.below HBj.out)
                  have I6 := hide (I5.out.below HBj.out)
                  have O6 := hide (O5.out.below HBj.out)
                  clear S5 I5 O5 HBj
                  go_wp2_with fail
                  exact ⟨⟨k + 1, D', by omega, by go_num, S6, I6, O6⟩, by simp [intOf]; omega⟩
      · have hke : k = 40 := by omega
        subst hke
        have hlt' : ((40 : Nat) : Int) < (m : Int) := by omega
        have hto := told_ok wr (HT.out.below HS.out.b) (Nat.le_trans HT.out.three HS.out.b.size)
        have Hto := hide hto
        have HSB := hide HS.out.b
        clear hto HS HI HO Hf
        go_wp2_with fail
        refine Hto.out.mono ?_
        rintro e w9 ⟨rfl, hb9⟩
        go_wp2_with fail
        go_ret
        exact ⟨rfl, below_then HSB.out HSB.out.size hb9⟩
    · have hke : k = m := by omega
      have hlt' : ¬ (k : Int) < (m : Int) := by omega
      have hto := told_ok wr (HT.out.below HS.out.b) (Nat.le_trans HT.out.three HS.out.b.size)
      have Hto := hide hto
      have HSB := hide HS.out.b
      clear hto HS HI HO Hf
      go_wp2_with fail
      refine Hto.out.mono ?_
      rintro e w9 ⟨rfl, hb9⟩
      go_wp2_with fail
      go_ret
      exact ⟨rfl, below_then HSB.out HSB.out.size hb9⟩
end Go.Proofs.YtekokogmnhlchaaGreatDoor
