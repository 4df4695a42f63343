import Derived.Test.YtekokogmnhlchaaGreatDoorD9
import Derived.Test.YtekokogmnhlchaaGreatDoorB5
import Derived.Deep.CutBlock
set_option linter.unusedSimpArgs false
set_option linter.unusedVariables false
namespace Go.Proofs.YtekokogmnhlchaaGreatDoor
open Go.RowKit
set_option maxHeartbeats 6400000 in
set_option maxRecDepth 1000000 in
theorem apart_ok (A : Option Addr) (m c : Nat) (l : List OpV) (A' : Option Addr) (m' c' : Nat) (l' : List OpV) (w : World) (ho : OpsAt w.heap.size w A m l) (hf : FitL l) (ho' : OpsAt w.heap.size w A' m' l') (hf' : FitL l') (hm : m ≤ 1000000000) (hmc : m' ≤ c') (hT : Tabs w) :
    Calls Tryz.prog 5 #[.slice A m c, .slice A' m' c'] w fun e w' => e = .returned (.bool true) ∧ Below w.heap.size w w' := by
  have hl' := ho'.1
  have HT := hide hT
  have Ho := hide ho
  have Hf := hide hf
  have Ho' := hide ho'
  have Hf' := hide hf'
  clear hT ho hf ho' hf'
  go_enter Tryz.func5, Tryz.ntmps5
  go_wp2_with fail
  refine (lnew_ok _).mono ?_
  rintro e w1 ⟨db, sb, rfl, hd, hb⟩
  have S1 := hide (St.new hd hb HT.out HT.out.three)
  have Hb1 := hide hb
  clear hd hb
  have hrun := run_any S1.out A m c l 25 (Ho.out.below Hb1.out) Hf.out (by omega) (by omega) hm
  have Hrun := hide hrun
  clear hrun
  go_wp2_with fail
  refine Hrun.out.mono ?_
  rintro e w2 ⟨rfl, hs2, hu2⟩
  obtain ⟨D, hD⟩ : ∃ D, runD [] (l.take 25) = D := ⟨_, rfl⟩
  rw [hD] at hs2
  have S2 := hide hs2
  have O2 := hide ((Ho'.out.below Hb1.out).upd S1.out hu2)
  have hnm := hs2.names (by omega)
  have Hnm := hide hnm
  clear hs2 hu2 hD Hrun S1 Hb1 Ho Ho' hnm
  go_wp2_with fail
  refine Hnm.out.mono ?_
  rintro e w3 ⟨ns, A3, c3, hns, rfl, hown3, hb3⟩
  have S3 := hide (S2.out.below hb3)
  have O3 := hide (O2.out.below hb3)
  have Hns := hide hns
  obtain ⟨dn, hdn⟩ : ∃ dn, D.length = dn := ⟨_, rfl⟩
  rw [hdn] at hown3 ⊢
  obtain ⟨z2, hz2⟩ : ∃ z, w2.heap.size = z := ⟨_, rfl⟩
  rw [hz2] at hown3
  have N3 := hide hown3
  have hd4 : dn ≤ 4 := by have := S3.out.ok.n4; omega
  have Hdn := hide hdn
  clear hdn hz2 hown3 hb3 hns Hnm S2 O2
  by_cases h0 : dn = 0
  · have hto := told_ok w3 (HT.out.below S3.out.b) (Nat.le_trans HT.out.three S3.out.b.size)
    have Hto := hide hto
    have HSB := hide S3.out.b
    have h0b : ((dn : Int) == 0) = true := by simp; omega
    have H0 := hide h0
    clear hto S3 O3 Hf Hf' h0
    go_wp2_with fail
    refine Hto.out.mono ?_
    rintro e w9 ⟨rfl, hb9⟩
    go_wp2_with fail
    go_ret
    exact ⟨rfl, below_then HSB.out HSB.out.size hb9⟩
  · obtain ⟨nm, i, T, hn0, hf0, hnms⟩ := names_zero Hns.out S3.out.ok (by have := Hdn.out; omega)
    obtain ⟨R, hR⟩ := walk_exists S3.out.ok (findT_at hf0).1
    have hw := walk_ok S3.out (by omega) hnms hf0 hR
    have hsm := walk_small S3.out.ok (findT_at hf0).1 hR
    obtain ⟨g3, rfl, _, _⟩ := own_ptr N3.out (by omega)
    have hc0 : ∀ (W : World), W.ownsRow z2 9 1 (.slice (some ⟨g3, 0, none⟩) dn c3) dn (strs ns) → C W g3 0 (.string nm) := fun W hW => (hW.cellAt 0 (by omega)).trans (by rw [strs, List.getElem?_map, hn0]; rfl)
    have n0 := hc0 w3 N3.out
    have Hc0 := hide hc0
    obtain ⟨rn, hrn⟩ : ∃ rn, R.length = rn := ⟨_, rfl⟩
    rw [hrn] at hw
    have hrl : rn ≤ 100000000 := by rw [← hrn, hR.len S3.out.ok (findT_at hf0).1]; have := S3.out.ok.n64 i T (findT_at hf0).1; omega
    have Hw := hide hw
    have HR := hide hR
    have Hsm := hide hsm
    have Hf0 := hide hf0
    have h0b : ((dn : Int) == 0) = false := by simp; omega
    have hdi : (0 : Int) < (dn : Int) := by omega
    have Hrn := hide hrn
    clear hw hR hsm hf0 hn0 hc0 h0 hrn
    go_wp2_with fail
    refine Hw.out.mono ?_
    rintro e w4 ⟨A4, c4, rfl, hout4, hb4⟩
    have S4 := hide (S3.out.below hb4)
    have O4 := hide (O3.out.below hb4)
    have N4 := hide (own_below N3.out hb4)
    obtain ⟨z3, hz3⟩ : ∃ z, w3.heap.size = z := ⟨_, rfl⟩
    rw [hz3] at hout4
    have R4 := hide hout4
    clear S3 O3 N3 hz3 hout4 hb4 Hw n0
    go_upto_block 0 with fail
    go_cut [11] (fun iv wx => ∃ k : Nat, k ≤ 20 ∧ Hid (St w.heap.size w wx db sb (200 + 8 * k) (runOthers D nm (l'.take k))) ∧ Hid (wx.ownsRow z2 9 1 (.slice (some ⟨g3, 0, none⟩) dn c3) dn (strs ns)) ∧ Hid (OutR z3 wx A4 c4 rn R))
    case first =>
      go_wp2_with fail
      go_loopw [11] (fun iv wr => ∃ k : Nat, k ≤ min m' 20 ∧ iv = .int .i64 k ∧ Hid (St w.heap.size w wr db sb (200 + 8 * k) (runOthers D nm (l'.take k))) ∧ Hid (wr.ownsRow z2 9 1 (.slice (some ⟨g3, 0, none⟩) dn c3) dn (strs ns)) ∧ Hid (OutR z3 wr A4 c4 rn R) ∧ Hid (OpsAt w.heap.size wr A' m' l')) (fun iv _ => (min m' 20) - (intOf iv).toNat)
      case atStart => exact ⟨0, Nat.zero_le _, rfl, S4, N4, R4, O4⟩
      case round =>
        clear S4 N4 R4 O4
        obtain ⟨k, hk, rfl, HS, HN, HRR, HO⟩ := hrel
        by_cases hlt : k < m'
        · by_cases hlm : k < 20
          · have hkl : k < l'.length := by omega
            obtain ⟨b, o, cs, hA, hop, h17, hc⟩ := HO.out.at_ k hkl
            cases hA
            have h1 := HO.out.one k hkl
            obtain ⟨ov, hov⟩ : ∃ ov, l'[k] = ov := ⟨_, rfl⟩
            have hfit : FitL [ov] := fun x hx => by rw [List.mem_singleton] at hx; subst hx; exact Hf'.out _ (hov ▸ List.getElem_mem _)
            have htk : runOthers D nm (l'.take (k + 1)) = if ov.tb = nm then runOthers D nm (l'.take k) else runStep (runOthers D nm (l'.take k)) ov := by rw [List.take_succ_eq_append_getElem hkl, hov, runOthers_snoc]
            rw [hov] at hop h1
            obtain ⟨CA, cc, XA, xc, RA, rc, rfl, _⟩ := hop
            have c1 := hc 1 (by omega)
            simp only [List.getElem?_cons_zero, List.getElem?_cons_succ] at c1
            obtain ⟨tb, htb⟩ : ∃ tb, ov.tb = tb := ⟨_, rfl⟩
            rw [htb] at c1 htk
            have n0 := Hc0.out wr HN.out
            obtain ⟨Dk, hDk⟩ : ∃ Dk, runOthers D nm (l'.take k) = Dk := ⟨_, rfl⟩
            rw [hDk] at HS htk
            have hlt' : (k : Int) < (m' : Int) := by omega
            have hlm' : (k : Int) < 20 := by omega
            by_cases he : tb = nm
            · rw [if_pos he] at htk
              have Htk := hide htk
              have Hfin : ∀ nq, Hid (St w.heap.size w (wr.drewN nq) db sb (200 + 8 * (k + 1)) Dk) ∧ Hid ((wr.drewN nq).ownsRow z2 9 1 (.slice (some ⟨g3, 0, none⟩) dn c3) dn (strs ns)) ∧ Hid (OutR z3 (wr.drewN nq) A4 c4 rn R) ∧ Hid (OpsAt w.heap.size (wr.drewN nq) (some ⟨b, o, none⟩) m' l') := fun nq =>
                have hb := below_drewN (Below.refl wr.heap.size wr) nq
                ⟨hide ((HS.out.below hb).more (by omega)), hide (own_below HN.out hb), hide (HRR.out.below hb), hide (HO.out.below hb)⟩
              have Hfin' := hide Hfin
              subst he
              clear htk Hfin hDk htb hov hc h1 hfit
              go_wp2_with fail
              go_quiet (fail)
              all_goals
                go_wp2_with fail
                exact ⟨⟨k + 1, by omega, by go_num, by rw [Htk.out]; exact (Hfin'.out _).1, (Hfin'.out _).2.1, (Hfin'.out _).2.2.1, (Hfin'.out _).2.2.2⟩, by simp [intOf]; omega⟩
            · rw [if_neg he] at htk
              have Htk := hide htk
              have hne : (tb.toList == nm.toList) = false := by
                rw [beq_eq_false_iff_ne]
                intro h
                rw [ByteArray.toList_eq, ByteArray.toList_eq] at h
                exact he (bytes_inj h)
              have hne2 : (tb.toList != nm.toList) = true := by simp [bne, hne]
              have hcon : ∀ W, Below wr.heap.size wr W → Calls Tryz.prog 24 #[.pointer (some ⟨db, 0, none⟩), .slice (some ⟨b, o + k * 17, none⟩) 1 (c' - k), .int .i64 1] W fun e w' => e = .returned (.tuple #[]) ∧ St w.heap.size w w' db sb (200 + 8 * (k + 1)) (runStep Dk ov) ∧ Upd db W w' := fun W hW =>
                (run_any (HS.out.below hW) (some ⟨b, o + k * 17, none⟩) 1 (c' - k) [ov] 1 (h1.below hW) hfit (by omega) (by omega) (by omega)).mono fun e w' hp => ⟨hp.1, hp.2.1.more (by omega), hp.2.2⟩
              have Hcon := hide hcon
              have hnk : ¬ (c' - k = 0) := by omega
              have hnki : ¬ ((c' : Int) - (k : Int) = 0) := by omega
              have hki : (k : Int) + 1 ≤ (c' : Int) := by omega
              have hkm : (k : Int) + 1 ≤ (m' : Int) := by omega
              clear htk hcon hDk htb hov hc h1 hfit he
              go_wp2_with fail
              go_quiet (fail)
              all_goals
                obtain ⟨W9, hW9⟩ : ∃ W9, wr.drewN nq = W9 := ⟨_, rfl⟩
                have hb9 : Below wr.heap.size wr W9 := hW9 ▸ below_drewN (Below.refl wr.heap.size wr) nq
                rw [hW9]
                have Hcon2 := hide (Hcon.out W9 hb9)
                have S9 := hide (HS.out.below hb9)
                have N9 := hide (own_below HN.out hb9)
                have R9 := hide (HRR.out.below hb9)
                have O9 := hide (HO.out.below hb9)
                clear hW9 Hcon HS HN HRR HO hb9 c1 n0
                go_wp2_with fail
                refine Hcon2.out.mono ?_
                rintro e w5 ⟨rfl, hs5, hu5⟩
                have S5 := hide hs5
                have N5 := hide (own_upd S9.out N9.out (by decide) (by decide) hu5)
                have R5 := hide (R9.out.upd S9.out hu5)
                have O5 := hide (O9.out.upd S9.out hu5)
                clear hs5 hu5 S9 N9 R9 O9 Hcon2
                go_wp2_with fail
                exact ⟨⟨k + 1, by omega, by go_num, by rw [Htk.out]; exact S5, N5, R5, O5⟩, by simp [intOf]; omega⟩
          · have hke : k = 20 := by omega
            subst hke
            have hlt' : ((20 : Nat) : Int) < (m' : Int) := by omega
            go_wp2_with fail
            go_meet
            exact ⟨20, by omega, HS, HN, HRR⟩
        · have hke : k = m' := by omega
          have hlt' : ¬ (k : Int) < (m' : Int) := by omega
          have hk20 : k ≤ 20 := by omega
          clear hke
          go_wp2_with fail
          go_meet
          exact ⟨k, hk20, HS, HN, HRR⟩
    case rest =>
      obtain ⟨k, hk20, S5, N5, R5⟩ := hcut
      clear S4 N4 R4 O4
      have hf5 := others_keep (l'.take k) Hf0.out
      obtain ⟨D5, hD5⟩ : ∃ D5, runOthers D nm (l'.take k) = D5 := ⟨_, rfl⟩
      rw [hD5] at S5 hf5
      obtain ⟨W5, hW5⟩ : ∃ W, W = wc := ⟨_, rfl⟩
      subst hW5
      have n0 := Hc0.out W5 N5.out
      have hw := walk_ok S5.out (by omega) hnms hf5 HR.out
      rw [Hrn.out] at hw
      have Hw := hide hw
      clear hw hf5 hD5
      go_wp2_with fail
      refine Hw.out.mono ?_
      rintro e w6 ⟨A6, c6, rfl, hout6, hb6⟩
      have B6 := hide (below_then S5.out.b S5.out.b.size hb6)
      have R6 := hide (R5.out.below hb6)
      have R6' := hide hout6
      have hto := told_ok w6 (HT.out.below B6.out) (Nat.le_trans HT.out.three B6.out.size)
      have Hto := hide hto
      clear hto hout6 hb6 S5 N5 R5 Hw n0
      go_wp2_with fail
      refine Hto.out.mono ?_
      rintro e w7 ⟨rfl, hb7⟩
      have hsr := samerows_any A4 A6 rn c4 rn c6 R R w7 ((R6.out.below hb7).read Hsm.out) ((R6'.out.below hb7).read Hsm.out) hrl
      rw [show decide (R = R) = true by simp] at hsr
      have Hsr := hide hsr
      have B7 := hide (below_then B6.out B6.out.size hb7)
      clear hsr hb7 Hto R6 R6'
      go_wp2_with fail
      refine Hsr.out.mono ?_
      rintro e w8 ⟨rfl, hb8⟩
      go_wp2_with fail
      go_ret
      exact ⟨rfl, below_then B7.out B7.out.size hb8⟩
end Go.Proofs.YtekokogmnhlchaaGreatDoor
