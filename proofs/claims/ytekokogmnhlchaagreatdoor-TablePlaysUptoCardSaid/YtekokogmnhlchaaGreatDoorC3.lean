import Derived.Test.YtekokogmnhlchaaGreatDoorB4
import Derived.Deep.DeepCutAuto
import Derived.Deep.Cut
set_option linter.unusedSimpArgs false
set_option linter.unusedVariables false
set_option linter.unusedSectionVars false
namespace Go.Proofs.YtekokogmnhlchaaGreatDoor
open Go.RowKit
set_option maxHeartbeats 40000000 in
set_option maxRecDepth 1000000 in
theorem scan_some (B0 db sb : Nat) (L : List Chg) (D : List Tb) (i : Nat) (T : Tb) (c : Int) (lo hi : V) (limit : Int) (w : World) (hd : DbAt B0 w db sb L D) (hL : L.length ≤ 100000) (hlw : wf64 lo.n) (hls : lo.s.size ≤ 4000000) (hhw : wf64 hi.n) (hhs : hi.s.size ≤ 4000000) (hf : findT D T.s.name 0 = some (i, T)) :
    Calls Tryz.prog 20 #[.pointer (some ⟨db, 0, none⟩), .string T.s.name, .int .i64 c, lo.val, hi.val, .int .i64 limit] w (ScanPost D T.s.name c lo hi limit w) := by
  have hal0 := (Below.refl w.heap.size w).alloc (Nat.le_refl _) (.cells #[.int .i64 c] 3)
  have hal1 := hal0.alloc hal0.size (.cells #[.int .i64 lo.k, .int .i64 lo.n, .string lo.s] 28)
  have hal2 := hal1.alloc hal1.size (.cells #[.int .i64 hi.k, .int .i64 hi.n, .string hi.s] 28)
  have hkc := ((Blk.new w #[.int .i64 c] 3).alloc (.cells #[.int .i64 lo.k, .int .i64 lo.n, .string lo.s] 28)).alloc (.cells #[.int .i64 hi.k, .int .i64 hi.n, .string hi.s] 28)
  have hkl := (Blk.new (w.alloc (.cells #[.int .i64 c] 3)) #[.int .i64 lo.k, .int .i64 lo.n, .string lo.s] 28).alloc (.cells #[.int .i64 hi.k, .int .i64 hi.n, .string hi.s] 28)
  have hkh := Blk.new ((w.alloc (.cells #[.int .i64 c] 3)).alloc (.cells #[.int .i64 lo.k, .int .i64 lo.n, .string lo.s] 28)) #[.int .i64 hi.k, .int .i64 hi.n, .string hi.s] 28
  rw [show (w.alloc (.cells #[.int .i64 c] 3)).heap.size = w.heap.size + 1 by simp] at hkl
  rw [show ((w.alloc (.cells #[.int .i64 c] 3)).alloc (.cells #[.int .i64 lo.k, .int .i64 lo.n, .string lo.s] 28)).heap.size = w.heap.size + 2 by simp] at hkh
  obtain ⟨W0, hW0⟩ : ∃ W0, ((w.alloc (.cells #[.int .i64 c] 3)).alloc (.cells #[.int .i64 lo.k, .int .i64 lo.n, .string lo.s] 28)).alloc (.cells #[.int .i64 hi.k, .int .i64 hi.n, .string hi.s] 28) = W0 := ⟨_, rfl⟩
  rw [hW0] at hal2 hkc hkl hkh
  have hfs := find_some_ B0 db sb L D T.s.name i T W0 (hd.below hal2) hf
  have Hfs := hide hfs
  have Hal := hide hal2
  have Hkc := hide hkc
  have Hkl := hide hkl
  have Hkh := hide hkh
  have HD := hide hd
  have Hf := hide hf
  clear hfs hd hal0 hal1 hal2 hkc hkl hkh hf
  go_enter Tryz.func20, Tryz.ntmps20
  go_wp2_with fail
  refine Hfs.out.mono ?_
  rintro e w1 ⟨tv, rfl, hts, hb1⟩
  have hts' := hts
  obtain ⟨CA, cc, XA, xc, rfl, k1, k2, k3, k4⟩ := hts
  have hal := (Below.refl w1.heap.size w1).alloc (Nat.le_refl _) (.cells #[.pointer (some ⟨db, 0, none⟩), .int .u8 (i : Nat), .string T.s.name, .slice CA T.s.cols.length cc, .slice XA T.s.ixs.length xc] 113)
  have hq := Blk.new w1 #[.pointer (some ⟨db, 0, none⟩), .int .u8 (i : Nat), .string T.s.name, .slice CA T.s.cols.length cc, .slice XA T.s.ixs.length xc] 113
  obtain ⟨W1, hW1⟩ : ∃ W1, w1.alloc (.cells #[.pointer (some ⟨db, 0, none⟩), .int .u8 (i : Nat), .string T.s.name, .slice CA T.s.cols.length cc, .slice XA T.s.ixs.length xc] 113) = W1 := ⟨_, rfl⟩
  rw [hW1] at hal hq
  have hc1 := (Hkc.out.below hb1).below hal
  have hl1 := (Hkl.out.below hb1).below hal
  have hh1 := (Hkh.out.below hb1).below hal
  have hB1 := below_chain (below_chain Hal.out hb1) hal
  have HT1 := hide (hts'.below hal)
  have Hq := hide hq
  have Hc1 := hide hc1
  have Hl1 := hide hl1
  have Hh1 := hide hh1
  have HB1 := hide hB1
  have Hx := hide (k4.rd.below hal)
  have HD1 := hide (HD.out.below hB1)
  have qc := hc1.c 0 (v := .int .i64 c) rfl
  have ql0 := hl1.c 0 (v := .int .i64 lo.k) rfl
  have ql1 := hl1.c 1 (v := .int .i64 lo.n) rfl
  have ql2 := hl1.c 2 (v := .string lo.s) rfl
  have qh0 := hh1.c 0 (v := .int .i64 hi.k) rfl
  have qh1 := hh1.c 1 (v := .int .i64 hi.n) rfl
  have qh2 := hh1.c 2 (v := .string hi.s) rfl
  have q0 := hq.c 0 (v := .pointer (some ⟨db, 0, none⟩)) rfl
  have q1 := hq.c 1 (v := .int .u8 (i : Nat)) rfl
  have q4 := hq.c 4 (v := .slice XA T.s.ixs.length xc) rfl
  clear hal hq hc1 hl1 hh1 hB1 hb1 hts' k1 k2 k3 k4 Hfs Hkc Hkl Hkh Hal HD
  have hcon : Calls Tryz.prog 66 #[.slice XA T.s.ixs.length xc, .func (.func 67) #[] #[.pointer (some ⟨w.heap.size, 0, none⟩)]] W1 _ := contX 67 #[.pointer (some ⟨w.heap.size, 0, none⟩)] (fun y => decide (y.col = c)) eg67 XA T.s.ixs.length xc T.s.ixs W1 Hx.out rfl (by have := (right_facts (HD1.out.ok.right i T (findT_at Hf.out).1)).x3; omega) (fun W hW x _ => (scan_fn x _ c W ((Hc1.out.below hW).c 0 rfl)).mono fun e w' h => ⟨h.1, below_then hW hW.size h.2⟩)
  have Hcon := hide hcon
  clear hcon
  go_upto_region 4 with (fail)
  clear hW1 hW0
  go_cut [16] (fun has wx => has = .bool (decide (c = 0) || T.s.ixs.any (fun y => decide (y.col = c))) ∧ Hid (Below W1.heap.size W1 wx))
  case first =>
    by_cases hc0 : c = 0
    · subst hc0
      go_wp2_with fail
      go_meet
      exact ⟨by simp, hide (Below.refl _ _)⟩
    go_wp2_with fail
    refine Hcon.out.mono ?_
    rintro e w2 ⟨rfl, hb2⟩
    go_wp2_with fail
    go_meet
    exact ⟨by simp [hc0], hide hb2⟩
  case rest =>
    obtain ⟨rfl, HB⟩ := hcut
    have hscan : scanE T c lo hi limit = if (decide (c = 0) || T.s.ixs.any (fun y => decide (y.col = c))) = true then (if rightV lo ≠ 0 ∨ rightV hi ≠ 0 then 62 else if limit < 1 ∨ 4 < limit then 1 else 0) else 65 := by
      simp [scanE]
    have Hscan := hide hscan
    obtain ⟨hb, hhb⟩ : ∃ hb, (decide (c = 0) || T.s.ixs.any (fun y => decide (y.col = c))) = hb := ⟨_, rfl⟩
    have Hhb := hide hhb
    rw [hhb]
    clear qc ql0 ql1 ql2 qh0 qh1 qh2 q0 q1 q4 Hcon hscan hhb
    have hBw := below_then HB1.out HB1.out.size HB.out
    have HD2 := hide (HD1.out.below HB.out)
    have HT2 := hide (HT1.out.below HB.out)
    have Hq2 := hide (Hq.out.below HB.out)
    have Hc2 := hide (Hc1.out.below HB.out)
    have Hl2 := hide (Hl1.out.below HB.out)
    have Hh2 := hide (Hh1.out.below HB.out)
    have HB2 := hide hBw
    clear HD1 HT1 Hq Hc1 Hl1 Hh1 HB1 Hx HB hBw
    have ql0 := Hl2.out.c 0 (v := .int .i64 lo.k) rfl
    have ql1 := Hl2.out.c 1 (v := .int .i64 lo.n) rfl
    have ql2 := Hl2.out.c 2 (v := .string lo.s) rfl
    have hrl : Calls Tryz.prog 68 #[.agg #[.int .i64 lo.k, .int .i64 lo.n, .string lo.s]] wc _ := right_any lo wc (by omega) HD2.out.tabs
    have Hrl := hide hrl
    clear hrl
    have bad : ∀ (E : Int) (w' : World), scanE T c lo hi limit = E → E ≠ 0 → Below w.heap.size w w' → ScanPost D T.s.name c lo hi limit w (.returned (.tuple #[.slice none 0 0, .int .i64 E])) w' := fun E w' h1 h2 h3 => by
      refine ⟨?_, h3⟩
      rw [Hf.out]
      show (if scanE T c lo hi limit = 0 then _ else _)
      rw [if_neg (by rw [h1]; exact h2), h1]
    have Bad := hide bad
    clear bad
    cases hb with
    | false =>
      go_wp2_with fail
      go_ret2
      exact Bad.out 65 _ (by rw [Hscan.out, Hhb.out]; rfl) (by omega) HB2.out
    | true =>
      go_wp2_with fail
      refine Hrl.out.mono ?_
      rintro e w3 ⟨rfl, hb3⟩
      have HB3 := hide (below_then HB2.out HB2.out.size hb3)
      have hh3 := Hh2.out.below hb3
      have qh0 := hh3.c 0 (v := .int .i64 hi.k) rfl
      have qh1 := hh3.c 1 (v := .int .i64 hi.n) rfl
      have qh2 := hh3.c 2 (v := .string hi.s) rfl
      have hrh : Calls Tryz.prog 68 #[.agg #[.int .i64 hi.k, .int .i64 hi.n, .string hi.s]] w3 _ := right_any hi w3 (by omega) (HD2.out.tabs.below hb3)
      have Hb3 := hide hb3
      have Hrh := hide hrh
      clear hrh hh3 hb3 Hrl
      by_cases hrlo : rightV lo = 0
      rotate_left
      · go_wp2_with fail
        go_ret2
        exact Bad.out 62 _ (by rw [Hscan.out, Hhb.out, if_pos rfl, if_pos (.inl hrlo)]) (by omega) HB3.out
      rw [hrlo]
      clear ql0 ql1 ql2
      go_wp2_with fail
      refine Hrh.out.mono ?_
      rintro e w4 ⟨rfl, hb4⟩
      have Hb4 := hide (below_chain Hb3.out hb4)
      have HB4 := hide (below_then HB2.out HB2.out.size Hb4.out)
      clear qh0 qh1 qh2 Hrh Hb3 HB3 hb4
      by_cases hrhi : rightV hi = 0
      rotate_left
      · go_wp2_with fail
        go_ret2
        exact Bad.out 62 _ (by rw [Hscan.out, Hhb.out, if_pos rfl, if_pos (.inr hrhi)]) (by omega) HB4.out
      rw [hrhi]
      by_cases hl1 : limit < 1
      · go_wp2_with fail
        go_ret2
        exact Bad.out 1 _ (by rw [Hscan.out, Hhb.out, if_pos rfl, if_neg (by simp [hrlo, hrhi]), if_pos (.inl hl1)]) (by omega) HB4.out
      by_cases hl4 : 4 < limit
      · go_wp2_with fail
        go_ret2
        exact Bad.out 1 _ (by rw [Hscan.out, Hhb.out, if_pos rfl, if_neg (by simp [hrlo, hrhi]), if_pos (.inr hl4)]) (by omega) HB4.out
      have HE0 : Hid (scanE T c lo hi limit = 0) := hide (by rw [Hscan.out, Hhb.out, if_pos rfl, if_neg (by simp [hrlo, hrhi]), if_neg (by omega)])
      have Hhas : Hid (c = 0 ∨ ∃ x ∈ T.s.ixs, x.col = c) := hide (by
        have := Hhb.out
        rw [Bool.or_eq_true, List.any_eq_true] at this
        rcases this with h | ⟨x, hx, h⟩
        · exact .inl (by simpa using h)
        exact .inr ⟨x, hx, by simpa using h⟩)
      clear Hscan Hhb Bad
      go_upto_region 11 with (fail)
      have HD3 := hide (HD2.out.below Hb4.out)
      have HT3 := hide (HT2.out.below Hb4.out)
      have Hq3 := hide (Hq2.out.below Hb4.out)
      have Hc3 := hide (Hc2.out.below Hb4.out)
      have Hl3 := hide (Hl2.out.below Hb4.out)
      have Hh3 := hide (Hh2.out.below Hb4.out)
      clear HD2 HT2 Hq2 Hc2 Hl2 Hh2 HB2 Hb4
      have q1 := Hq3.out.c 1 (v := .int .u8 (i : Nat)) rfl
      have hcp : c = 0 ∨ (0 < c ∧ c < 256) := by
        rcases Hhas.out with h | ⟨x, hx, rfl⟩
        · exact .inl h
        have := ixs_facts (HD3.out.ok.right i T (findT_at Hf.out).1) x hx
        omega
      have hal := (Below.refl w4.heap.size w4).alloc (Nat.le_refl _) (.cells #[.int .u8 (i : Nat)] 5)
      have qc := (Hc3.out.below hal).c 0 (v := .int .i64 c) rfl
      have Hal := hide hal
      clear hal
      go_upto_region 12 with (fail)
      go_cut [69] (fun t wx => Hid (t = .bool (decide (0 < c))) ∧ Hid (wx = w4.alloc (.cells #[.int .u8 (i : Nat)] 5)))
      case first =>
        go_wp2_with fail
        go_meet
        exact ⟨hide rfl, hide rfl⟩
      case rest =>
      obtain ⟨Ht69, Hwc⟩ := hcut
      go_upto_region 13 with (fail)
      go_cut [17, 18] (fun a sp wx => ∃ A n c', n ≤ 2 ∧ a = .slice A n c' ∧ Hid (RB wx A n (aheadB i c)) ∧ (∃ q : Int, sp = .int .i64 q ∧ Hid (q = if c = 0 then 1 else 2)) ∧ Hid (Below w4.heap.size w4 wx))
      case first =>
        have ht69 := Ht69.out
        have hwc := Hwc.out
        subst ht69 hwc
        have hid8 := HD3.out.ok.lt4 (findT_at Hf.out).1
        have hOW : Hid ((w4.alloc (.cells #[.int .u8 (i : Nat)] 5)).ownsRow w4.heap.size 5 1 (.slice (some ⟨w4.heap.size, 0, none⟩) 1 1) 1 [.int .u8 (i : Nat)]) := hide (World.ownsRow_lit (base := w4.heap.size) w4 #[.int .u8 (i : Nat)] 1 (Nat.le_refl _) (by decide) rfl)
        by_cases hc0 : c = 0
        · subst hc0
          go_wp2_with fail
          go_meet
          have e1 : [Value.int .u8 (i : Nat)] = bys [UInt8.ofNat i] := by rw [u8_small (i : Nat) (by omega) (by omega)]; simp [bys]
          exact ⟨_, 1, 1, by omega, rfl, hide (by rw [RB, aheadB, if_pos rfl, ← e1]; exact Rd.of_own hOW.out), ⟨1, rfl, hide rfl⟩, Hal⟩
        have hcp2 : 0 < c ∧ c < 256 := by omega
        have hc8 : IntKind.u8.wrap c = c := wrap_u8 _ (by omega) (by omega)
        have hz4 : w4.heap.size ≤ (w4.alloc (.cells #[.int .u8 (i : Nat)] 5)).heap.size := by simp
        have hcgt : 0 < c := hcp2.1
        go_wp2_with (first
          | (at_builtin; refine wp_lit u8T rfl rfl hOW.out rfl rfl (by simp) (by rfl) (by simp [Value.oneCell']) (by omega) (by omega) hz4 ?_; intro A5 c5 w5 hown5 hb5 hg5)
          | fail)
        go_meet
        exact ⟨A5, 2, c5, by omega, rfl, hide (by
          have := Rd.of_own hown5
          rw [u8_small (i : Nat) (by omega) (by omega), u8_small c (by omega) (by omega)] at this
          simpa [aheadB, RB, bys, hc0] using this), ⟨2, rfl, hide (by simp [hc0])⟩, hide (Hal.out.trans hb5)⟩
      case rest =>
        obtain ⟨A, n, ca, hn2, rfl, HRB, ⟨sp, rfl, Hsp⟩, HBc⟩ := hcut
        obtain ⟨V4, hV4⟩ : ∃ W, W = wc := ⟨_, rfl⟩
        subst hV4
        have HD4 := hide (HD3.out.below HBc.out)
        have HT4 := hide (HT3.out.below HBc.out)
        have Hq4 := hide (Hq3.out.below HBc.out)
        have Hl4 := hide (Hl3.out.below HBc.out)
        have Hh4 := hide (Hh3.out.below HBc.out)
        have HB5 := hide (below_then HB4.out HB4.out.size HBc.out)
        clear HD3 HT3 Hq3 Hc3 Hl3 Hh3 HB4 HBc Hal q1 qc
        have qh0 := Hh4.out.c 0 (v := .int .i64 hi.k) rfl
        have qh1 := Hh4.out.c 1 (v := .int .i64 hi.n) rfl
        have qh2 := Hh4.out.c 2 (v := .string hi.s) rfl
        have hokh : okV hi := ⟨hrhi, hhw, hhs⟩
        have hokl : okV lo := ⟨hrlo, hlw, hls⟩
        have hbd : Calls Tryz.prog 69 #[.slice A n ca, .agg #[.int .i64 hi.k, .int .i64 hi.n, .string hi.s]] V4 _ := bound_any A n ca (aheadB i c) hi hokh V4 HRB.out (by omega) HD4.out.tabs (keyV_big hokh)
        have Hbd := hide hbd
        clear hbd
        go_wp2_with fail
        refine Hbd.out.mono ?_
        rintro e w5 ⟨At, mt, ct, rfl, hm58, hrt, hb5⟩
        have Hrt := hide hrt
        have Hb5 := hide hb5
        have qh0 := (Hh4.out.below hb5).c 0 (v := .int .i64 hi.k) rfl
        clear Hbd hrt hb5 qh1 qh2
        go_upto_region 15 with (fail)
        go_cut [80] (fun t wx => Hid (t = .bool (decide (hi.k = 0))) ∧ Hid (wx = w5))
        case first =>
          go_wp2_with fail
          go_meet
          exact ⟨hide rfl, hide rfl⟩
        case rest =>
        obtain ⟨Ht80, Hwc5⟩ := hcut
        go_upto_region 16 with (fail)
        go_cut [19] (fun t wx => ∃ A' m c', m ≤ 58 ∧ t = .slice A' m c' ∧ Hid (RB wx A' m (toB (aheadB i c) hi)) ∧ Hid (Below V4.heap.size V4 wx))
        case first =>
          have ht80 := Ht80.out
          have hwc5 := Hwc5.out
          subst ht80 hwc5
          by_cases hk0 : hi.k = 0
          rotate_left
          · go_wp2_with fail
            go_meet
            exact ⟨At, mt, ct, hm58, rfl, hide (by rw [toB, if_neg hk0]; exact Hrt.out), Hb5⟩
          have hcl := bclone_any A n ca (aheadB i c) _ (HRB.out.below Hb5.out) (by omega)
          have Hcl := hide hcl
          clear hcl
          go_wp2_with fail
          refine Hcl.out.mono ?_
          rintro e w6 ⟨v6, rfl, hown6, hb6⟩
          have hz6 : V4.heap.size ≤ w6.heap.size := Nat.le_trans Hb5.out.size hb6.size
          have HO6 := hide (own_mono hown6 Hb5.out.size)
          have HB6 := hide (below_chain Hb5.out hb6)
          clear hown6 hb6
          go_wp2_with (first
            | (at_builtin; refine wp_lit u8T rfl rfl HO6.out rfl rfl (by simp) (by rfl) (by simp [Value.oneCell']) (by omega) (by omega) hz6 ?_; intro A7 c7 w7 hown7 hb7 hg7)
            | fail)
          go_meet
          exact ⟨A7, n + 1, c7, by omega, rfl, hide (by
            have := Rd.of_own hown7
            have e1 : bys (aheadB i c) ++ [Value.int .u8 255] = bys (aheadB i c ++ [255]) := by rw [bys_append]; simp [bys]
            rw [e1] at this
            rw [RB, toB, if_pos hk0]
            exact this), hide (HB6.out.trans hb7)⟩
        case rest =>
          obtain ⟨At, mt, ct, hmt, rfl, HRt, HBt⟩ := hcut
          clear Hrt Hb5 Ht80 Hwc5 hm58
          obtain ⟨V5, hV5⟩ : ∃ W, W = wc := ⟨_, rfl⟩
          subst hV5
          have HD5 := hide (HD4.out.below HBt.out)
          have HT5 := hide (HT4.out.below HBt.out)
          have Hq5 := hide (Hq4.out.below HBt.out)
          have Hl5 := hide (Hl4.out.below HBt.out)
          have HRB5 := hide (HRB.out.below HBt.out)
          have HB6 := hide (below_then HB5.out HB5.out.size HBt.out)
          clear HD4 HT4 Hq4 Hl4 Hh4 HRB HB5 HBt qh0
          have ql0 := Hl5.out.c 0 (v := .int .i64 lo.k) rfl
          have ql1 := Hl5.out.c 1 (v := .int .i64 lo.n) rfl
          have ql2 := Hl5.out.c 2 (v := .string lo.s) rfl
          have q0 := Hq5.out.c 0 (v := .pointer (some ⟨db, 0, none⟩)) rfl
          have hsp : 0 ≤ sp ∧ sp < 16 := by have := Hsp.out; split at this <;> omega
          obtain ⟨lm, hlm⟩ := Int.eq_ofNat_of_zero_le (show 0 ≤ limit by omega)
          subst hlm
          have hN := hide ((Below.refl V5.heap.size V5).drew)
          have HBD : Hid (Calls Tryz.prog 69 #[.slice A n ca, .agg #[.int .i64 lo.k, .int .i64 lo.n, .string lo.s]] V5.drew fun e w' => ∃ A' m c', e = .returned (.slice A' m c') ∧ m ≤ 58 ∧ RB w' A' m (boundB (aheadB i c) lo) ∧ Below V5.drew.heap.size V5.drew w') := hide (bound_any A n ca (aheadB i c) lo hokl V5.drew (HRB5.out.below hN.out) (by omega) (HD5.out.tabs.below hN.out) (keyV_big hokl))
          have HRG : Hid (∀ W A1 m1 c1, Below V5.heap.size V5 W → RB W A1 m1 (boundB (aheadB i c) lo) → m1 ≤ 58 → Calls Tryz.prog 71 #[.pointer (some ⟨db, 0, none⟩), .int .i64 sp, .slice A1 m1 c1, .slice At mt ct, .int .i64 (lm : Nat)] W (RangePost L sp (boundB (aheadB i c) lo) (toB (aheadB i c) hi) lm W)) := hide fun W A1 m1 c1 hb hr hm =>
            drange_any B0 db sb L sp A1 At m1 c1 mt ct _ _ lm W (HD5.out.d.below hb) hr (HRt.out.below hb) hsp.1 hsp.2 (by omega) (by omega) hL (fun x hx => ⟨(HD5.out.small x hx).1, (HD5.out.small x hx).2.1⟩) (by omega)
          go_upto_region 17 with (fail)
          go_cut [20, 15] (fun ls er wx => ∃ (l : List PR) (A8 : Option Addr) (c8 : Nat), ls = .slice A8 (min l.length lm) c8 ∧ er = .int .i64 0 ∧ Hid (RangeL L sp (boundB (aheadB i c) lo) (toB (aheadB i c) hi) (l.map fun p => (p.key, p.val))) ∧ Hid (Rd wx 3 A8 (min l.length lm) ((l.take lm).flatMap (prCells sp))) ∧ Hid (∀ p ∈ l, PrAt wx p) ∧ Hid (Below V5.heap.size V5 wx))
          case first =>
           go_region_law
            ((first
              | (refine step_call (f := 69) (vs := [.slice A n ca, .agg #[.int .i64 lo.k, .int .i64 lo.n, .string lo.s]]) (R := fun e w' => ∃ A' m c', e = .returned (.slice A' m c') ∧ m ≤ 58 ∧ RB w' A' m (boundB (aheadB i c) lo) ∧ Below V5.drew.heap.size V5.drew w') (by rfl) (by rfl) ?_ (by simp [go_sem]) ?_ ?_; rfl; exact HBD.out; rintro e w7 ⟨A7, m7, c7, rfl, hm7, hr7, hb7⟩; refine ⟨_, rfl, ?_⟩; have hb7 := undrewd hb7; have q0' := q0.below hb7)
              | (refine step_call (f := 71) (vs := [.pointer (some ⟨db, 0, none⟩), .int .i64 sp, .slice A7 m7 c7, .slice At mt ct, .int .i64 (lm : Nat)]) (R := RangePost L sp (boundB (aheadB i c) lo) (toB (aheadB i c) hi) lm w7) (by rfl) (by rfl) ?_ (by simp [go_sem]) ?_ ?_; rfl; exact HRG.out w7 A7 m7 c7 hb7 hr7 hm7; rintro e w8 ⟨l, A8, c8, rfl, hrl, hrd, hpa, hb8⟩; refine ⟨_, rfl, ?_⟩)
              | fail))
           all_goals
            have Hx8 := hide hrl
            have Hy8 := hide hrd
            have Hz8 := hide hpa
            have Hb8 := hide (below_chain hb7 hb8)
            clear hrl hrd hpa hb8 hb7 q0' hr7
            try go_wp2_with fail
            go_meet
            exact ⟨l, A8, c8, rfl, rfl, Hx8, Hy8, Hz8, Hb8⟩
          case rest =>
            obtain ⟨l, A8, c8, rfl, rfl, HRL, HRD, HPA, HBr⟩ := hcut
            obtain ⟨V6, hV6⟩ : ∃ W, W = wc := ⟨_, rfl⟩
            subst hV6
            clear HBD HRG ql0 ql1 ql2 q0 Hl5
            have hT := (findT_at Hf.out).1
            have hcase : (c = 0 ∧ sp = 1) ∨ (c ≠ 0 ∧ sp = 2 ∧ ∃ x ∈ T.s.ixs, x.col = c) := by
              have h1 := Hsp.out
              by_cases hc0 : c = 0
              · rw [if_pos hc0] at h1; exact .inl ⟨hc0, h1⟩
              rw [if_neg hc0] at h1; exact .inr ⟨hc0, h1, Hhas.out.resolve_left hc0⟩
            obtain ⟨R, hR, hkeys⟩ := scan_rows HD5.out.rep HD5.out.ok hT hcase HRL.out
            have hlR : l.length = R.length := by have := congrArg List.length hkeys; simpa using this
            have hkey : ∀ (k : Nat) (p : PR) (r : List V), l[k]? = some p → R[k]? = some r → p.key = scanK i c r := by
              intro k p r hp hr
              have h1 := congrArg (fun z => z[k]?) hkeys
              simpa [hp, hr] using h1
            have HR := hide hR
            have Hkey := hide hkey
            have HlR := hide hlR
            obtain ⟨n8, hn8⟩ : ∃ n8, min l.length lm = n8 := ⟨_, rfl⟩
            rw [hn8] at HRD ⊢
            have Hn8 := hide hn8
            have hn8' : n8 ≤ 4 := by omega
            have HD6 := hide (HD5.out.below HBr.out)
            have HT6 := hide (HT5.out.below HBr.out)
            have Hq6 := hide (Hq5.out.below HBr.out)
            have HB7 := hide (below_then HB6.out HB6.out.size HBr.out)
            have HTi := hide hT
            have hlen0 : (aheadB i c).length = n := RB.len HRB5.out
            have Hlen := hide hlen0
            clear HD5 HT5 Hq5 HB6 HBr HRB5 HRt HRL hlen0 hR hkeys hlR hkey hcase Hsp Hhas hT hn8
            go_upto_region 21 with (fail)
            go_wp2_with fail
            go_loopw [21, 102] (fun rows iv wx => ∃ (k : Nat) (A' : Option Addr) (c' : Nat) (sl : List Value), k ≤ n8 ∧ iv = .int .i64 k ∧ rows = .slice A' k c' ∧ Hid (wx.ownsRow V6.heap.size 33 1 (.slice A' k c') k sl) ∧ Hid (∀ (j : Nat) (r : List V), j < k → R[j]? = some r → ∃ g cj, sl[j]? = some (.slice (some ⟨g, 0, none⟩) r.length cj) ∧ wx.ownsRow w.heap.size 28 3 (.slice (some ⟨g, 0, none⟩) r.length cj) r.length (rowCells r) ∧ g < wx.heap.size ∧ some g ≠ (Value.slice A' k c').ownBlock) ∧ Hid (Below V6.heap.size V6 wx)) (fun _ iv _ => n8 - (intOf iv).toNat)
            case atStart => exact ⟨0, none, 0, [], Nat.zero_le _, rfl, rfl, hide (World.ownsRow_nil _ _ _ _), hide (fun j r h => absurd h (Nat.not_lt_zero _)), hide (Below.refl _ _)⟩
            case round =>
              obtain ⟨k, A', c', sl, hk, rfl, rfl, HO, HS, HB⟩ := hrel
              by_cases hlt : k < n8
              rotate_left
              · have hke : n8 = k := by omega
                subst hke
                clear Hq6 HRD
                go_wp2_with fail
                go_ret2
                refine ⟨?_, below_then HB7.out HB7.out.size HB.out⟩
                rw [Hf.out]
                show (if scanE T c lo hi (lm : Nat) = 0 then _ else _)
                rw [if_pos HE0.out]
                have e1 : min R.length (Int.toNat (lm : Nat)) = n8 := by rw [← HlR.out]; simpa using Hn8.out
                refine ⟨R, A', c', HR.out, by rw [e1]; exact rfl, ?_⟩
                rw [e1]
                refine ⟨sl, ⟨Rd.of_own HO.out, _, own_mono HO.out HB7.out.size⟩, by rw [List.length_take]; have := Hn8.out; have := HlR.out; simp; omega, fun j r hj => ?_⟩
                have hj2 : j < n8 := by
                  have := (List.getElem?_eq_some_iff.1 hj).1
                  rw [List.length_take] at this
                  have := Hn8.out; have := HlR.out; simp at *; omega
                rw [List.getElem?_take, if_pos (by have := Hn8.out; simp; omega)] at hj
                obtain ⟨g, cj, h1, h2, _⟩ := HS.out j r hj2 hj
                exact ⟨_, cj, h1, h2⟩
              have hkl : k < l.length := by have := Hn8.out; omega
              have hkm : k < lm := by have := Hn8.out; omega
              have hkR : k < R.length := by have := HlR.out; omega
              obtain ⟨p, hp⟩ : ∃ p, l[k] = p := ⟨_, rfl⟩
              obtain ⟨r, hr⟩ : ∃ r, R[k] = r := ⟨_, rfl⟩
              have hp' : l[k]? = some p := by rw [List.getElem?_eq_getElem hkl, hp]
              have hr' : R[k]? = some r := by rw [List.getElem?_eq_getElem hkR, hr]
              have hpk := Hkey.out k p r hp' hr'
              have hrm : r ∈ T.rows := ((HR.out.mem r).1 (List.mem_of_getElem? hr')).1
              have hfit := HD6.out.ok.fit i T HTi.out r hrm
              have hrow1 := hfit.row (HD6.out.ok.right i T HTi.out)
              have hval := HD6.out.ok.val HTi.out hrm
              have hwas := wasT_mem HD6.out.ok HTi.out hrm
              have htl : (l.take lm).length = n8 := by rw [List.length_take]; have := Hn8.out; omega
              obtain ⟨b, o, rfl, hc⟩ := Rd.struct (prCells_len sp) (l.take lm) htl (HRD.out.below HB.out) k (by omega)
              rw [List.getElem_take, hp] at hc
              obtain ⟨⟨KA, kn, kc, hkv, hk5, hkc⟩, VA, vn, vc, hvv, _⟩ := HPA.out p (by rw [← hp]; exact List.getElem_mem _)
              obtain ⟨pk, pv, pkv, pvv⟩ := p
              simp only at hkv hvv hk5 hpk
              subst hkv hvv hpk
              have e0 : C wr b (o + k * 3) (.int .i64 sp) := hc 0 (by omega)
              have e1 : C wr b (o + k * 3 + 1) (.slice KA kn kc) := hc 1 (by omega)
              have e2 : C wr b (o + k * 3 + 2) (.slice VA vn vc) := hc 2 (by omega)
              obtain ⟨vs, hvs⟩ : ∃ vs, valsOf c r = vs := ⟨_, rfl⟩
              have hvl : ∃ v1, vs.length = v1 + 1 ∧ v1 ≤ 1 := by
                rw [← hvs]; unfold valsOf; split <;> simp
              obtain ⟨v1, hv1, hv1le⟩ := hvl
              have hvlast : vs[v1] = col r 0 := by
                subst hvs
                by_cases hc0 : c = 0
                · subst hc0; simp [valsOf] at hv1; subst hv1; rfl
                simp [valsOf, hc0] at hv1; subst hv1; simp [valsOf, hc0]
              have hvok : ∀ v ∈ vs, okV v := by
                rw [← hvs]; unfold valsOf
                split
                · intro v hv; simp at hv; subst hv; exact hval 0
                intro v hv; simp at hv; exact hv.elim (fun e => e ▸ hval _) (fun e => e ▸ hval 0)
              have hkl0 : 0 < kn := by
                have h1 := RB.len hk5.1
                have h2 := Hlen.out
                have h3 : (scanK i c r).length = (aheadB i c).length + (keyL vs).length := by rw [scanK, hvs, List.length_append]
                have h4 : 0 < (aheadB i c).length := by unfold aheadB; split <;> simp
                omega
              obtain ⟨kb, ko, hKA, hat0⟩ := RB.at_ hk5.1 0 hkl0
              clear hat0
              subst hKA
              obtain ⟨m, hm⟩ : ∃ m, (keyL vs).length = m := ⟨_, rfl⟩
              have hkn : kn = n + m := by
                have h1 := RB.len hk5.1
                have h2 := Hlen.out
                rw [scanK, hvs, List.length_append] at h1
                omega
              have hm56 : 0 < m ∧ m ≤ 100000000 := by
                rw [← hm]
                have hbig : ∀ (l : List V), (∀ v ∈ l, (keyV v).length ≤ 28) → (keyL l).length ≤ 28 * l.length := fun l => by
                  induction l with
                  | nil => intro _; simp [keyL]
                  | cons v l ih =>
                    intro h
                    rw [keyL_cons, List.length_append, List.length_cons]
                    have := h v (by simp)
                    have := ih fun x hx => h x (by simp [hx])
                    omega
                have h1 := hbig vs (fun v hv => by
                  have hcl := fun z => (hfit.col (HD6.out.ok.right i T HTi.out) z).2
                  rw [← hvs] at hv
                  unfold valsOf at hv
                  split at hv
                  · simp at hv; subst hv; exact hcl 0
                  simp at hv; exact hv.elim (fun e => e ▸ hcl _) (fun e => e ▸ hcl 0))
                have h2 : 0 < (keyL vs).length := by
                  cases vs with
                  | nil => simp at hv1
                  | cons v l => rw [keyL_cons, List.length_append]; have := keyV_pos v; omega
                omega
              subst hkn
              have hal := (Below.refl wr.heap.size wr).alloc (Nat.le_refl _) (.cells #[.int .i64 sp, .slice (some ⟨kb, ko, none⟩) (n + m) kc, .slice VA vn vc] 132)
              have hrk : RB (wr.alloc (.cells #[.int .i64 sp, .slice (some ⟨kb, ko, none⟩) (n + m) kc, .slice VA vn vc] 132)) (some ⟨kb, ko + n, none⟩) m (keyL vs) := by
                have h1 : RB V6 (some ⟨kb, ko, none⟩) (n + m) (aheadB i c ++ keyL vs) := by have := hk5.1; rw [scanK, hvs] at this; exact this
                have h2 := RB.drop_ h1 m (by have := Hlen.out; omega)
                rw [Hlen.out] at h2
                exact (h2.below HB.out).below hal
              have hread := read_any (some ⟨kb, ko + n, none⟩) m (kc - n) vs hvok _ hrk (by omega) (by omega)
              rw [hv1] at hread
              have n1 := C.new wr #[.int .i64 sp, .slice (some ⟨kb, ko, none⟩) (n + m) kc, .slice VA vn vc] 132 1 (v := .slice (some ⟨kb, ko, none⟩) (n + m) kc) rfl
              obtain ⟨W, hW⟩ : ∃ W, wr.alloc (.cells #[.int .i64 sp, .slice (some ⟨kb, ko, none⟩) (n + m) kc, .slice VA vn vc] 132) = W := ⟨_, rfl⟩
              rw [hW] at hal hrk hread n1
              have Hread := hide hread
              have HalW := hide hal
              have Hvs := hide hvs
              have hvq : vs[v1]? = some (col r 0) := by rw [List.getElem?_eq_getElem (by omega), hvlast]
              have Hvl := hide hvq
              have Hwas := hide hwas
              have Hr' := hide hr'
              have Hv1 := hide hv1
              have Hval := hide hval
              have Hrow1 := hide hrow1
              have Hrp : Hid (0 < r.length) := hide (by rw [fits_len hfit.fit]; have := (right_facts (HD6.out.ok.right i T HTi.out)).c1; omega)
              have Hrm := hide hrm
              have hnk : ¬ (kc - n = 0) := by omega
              have hnki : ¬ ((kc : Int) - (n : Int) = 0) := by omega
              clear hc hread hal hrk hvs hvq hvlast hvok hwas hr' hv1 hval hrow1 hfit hrm hk5 hr hm htl hp' hp hkl0
              go_wp2_with fail
              clear hW
              refine Hread.out.mono ?_
              rintro e w2 ⟨A2, c2, rfl, hown2, hb2⟩
              have hv1 := Hv1.out
              have hrr : Rd w2 3 A2 vs.length (rowCells vs) := by rw [hv1]; exact Rd.of_own hown2
              obtain ⟨b2, o2, rfl, z0, z1, z2⟩ := Row.cells hrr v1 (by omega)
              have hvv : vs[v1] = col r 0 := by
                have := Hvl.out
                rw [List.getElem?_eq_getElem (by omega)] at this
                exact Option.some.inj this
              rw [hvv] at z0 z1 z2
              obtain ⟨v0, hv0⟩ : ∃ v0, col r 0 = v0 := ⟨_, rfl⟩
              rw [hv0] at z0 z1 z2
              have hbw2 := below_then (below_chain HB.out HalW.out) (below_chain HB.out HalW.out).size hb2
              have hB2 := below_then HB7.out HB7.out.size hbw2
              have hq2 := Hq6.out.below hbw2
              have x0 := hq2.c 0 (v := .pointer (some ⟨db, 0, none⟩)) rfl
              have x1 := hq2.c 1 (v := .int .u8 (i : Nat)) rfl
              have x2 := hq2.c 2 (v := .string T.s.name) rfl
              have x3 := hq2.c 3 (v := .slice CA T.s.cols.length cc) rfl
              have x4 := hq2.c 4 (v := .slice XA T.s.ixs.length xc) rfl
              have hok0 := Hval.out 0
              rw [hv0] at hok0
              have hw0 := Hwas.out
              rw [hv0] at hw0
              have hD2 := HD6.out.below hbw2
              have hget : Calls Tryz.prog 61 #[.agg #[.pointer (some ⟨db, 0, none⟩), .int .u8 (i : Nat), .string T.s.name, .slice CA T.s.cols.length cc, .slice XA T.s.ixs.length xc], .agg #[.int .i64 v0.k, .int .i64 v0.n, .string v0.s]] w2.drew _ := get_any B0 db sb L D i T _ v0 hok0 (keyV_big hok0) w2.drew (hD2.below ((Below.refl _ _).drew)) HTi.out ((HT6.out.v.below hbw2).below ((Below.refl _ _).drew))
              unfold GetRow at hget
              rw [hw0] at hget
              have Hget := hide hget
              have hbr2 := below_chain HalW.out hb2
              have Hbw2 := hide hbw2
              have HB2' := hide hB2
              have HO2 := hide (own_below HO.out hbr2)
              have Hbr2 := hide hbr2
              clear hown2 hb2 hrr hbw2 hB2 hq2 hok0 hw0 hD2 hget Hread hv0 HalW hvv hbr2 hv1
              have hw2z : w.heap.size ≤ w2.heap.size := HB2'.out.size
              go_upto_region 27 with (fail)
              go_cut [26, 25] (fun row er wx => ∃ (A9 : Option Addr) (c9 : Nat), row = .slice A9 r.length c9 ∧ er = .int .i64 0 ∧ Hid (wx.ownsRow w2.heap.size 28 3 (.slice A9 r.length c9) r.length (rowCells r)) ∧ Hid (Below w2.heap.size w2 wx))
              case first =>
                have hwr : IntKind.i64.wrap (v1 : Int) = v1 := by rw [IntKind.wrap_i64]; omega
                have hlt1 : (v1 : Int) < (v1 : Int) + 1 := by omega
                go_region_law
                  ((first
                    | (refine step_call (f := 61) (vs := [.agg #[.pointer (some ⟨db, 0, none⟩), .int .u8 (i : Nat), .string T.s.name, .slice CA T.s.cols.length cc, .slice XA T.s.ixs.length xc], .agg #[.int .i64 v0.k, .int .i64 v0.n, .string v0.s]]) (R := fun e w' => (∃ A c, e = .returned (.tuple #[.slice A r.length c, .bool true, .int .i64 0]) ∧ w'.ownsRow w2.drew.heap.size 28 3 (.slice A r.length c) r.length (rowCells r)) ∧ Below w2.drew.heap.size w2.drew w') (by rfl) (by rfl) ?_ (by simp [go_sem]) ?_ ?_; rfl; exact Hget.out; rintro e w3 ⟨⟨A9, c9, rfl, hown3⟩, hb3⟩; refine ⟨_, rfl, ?_⟩)
                    | fail))
                all_goals
                  have Hown3 := hide hown3
                  have Hb3 := hide (undrewd hb3)
                  clear hown3 hb3
                  try go_wp2_with fail
                  go_meet
                  exact ⟨A9, c9, rfl, rfl, Hown3, Hb3⟩
              case rest =>
                obtain ⟨A9, c9, rfl, rfl, HO9, HB9⟩ := hcut
                obtain ⟨V7, hV7⟩ : ∃ W, W = wc := ⟨_, rfl⟩
                subst hV7
                obtain ⟨g9, rfl, hg9l, hg9h⟩ := own_ptr HO9.out Hrp.out
                have HO3 := hide (own_below HO2.out HB9.out)
                have hz7 : V6.heap.size ≤ V7.heap.size := Nat.le_trans Hbw2.out.size HB9.out.size
                have hk5 : k + 1 ≤ 4294967296 := by omega
                clear x0 x1 x2 x3 x4 z0 z1 z2 Hget
                go_wp2_with (first
                  | (at_builtin; refine wp_lit2 rowsT rfl rfl HO3.out rfl rfl (by simp) (by rfl) (by simp [Value.oneCell']) hk5 (by omega) hz7 ?_; intro A5 c5 w5 hown5 hb5 hg5 hat5)
                  | fail)
                have hob : ∀ g, (Value.slice A' k c').ownBlock = some g → g < w2.heap.size := fun g hg => (own_bnd HO2.out g hg).2
                have hne9 : some g9 ≠ (Value.slice A' k c').ownBlock := fun he => by
                  have := hob g9 he.symm
                  omega
                have hfar : ∀ g, g < V7.heap.size → some g ≠ (Value.slice A' k c').ownBlock → some g ≠ (Value.slice A5 (k + 1) c5).ownBlock := fun g hg hne he => by
                  rcases hat5 with h | h
                  · exact hne (he.trans h)
                  rw [h] at he; injection he with he; omega
                have hbr7 := below_chain Hbr2.out HB9.out
                refine ⟨⟨k + 1, A5, c5, _, hlt, by go_num, rfl, hide hown5, hide fun j r' hj hr2 => ?_, hide ((below_then HB.out HB.out.size hbr7).trans hb5)⟩, by simp [intOf]; omega⟩
                have hsl : sl.length = k := by have := own_len HO3.out; omega
                by_cases hjk : j < k
                · obtain ⟨g, cj, h1, h2, h3, h4⟩ := HS.out j r' hjk hr2
                  have h5 : g < V7.heap.size := Nat.lt_of_lt_of_le h3 hbr7.size
                  refine ⟨g, cj, by rw [List.getElem?_append_left (by omega)]; exact h1, (own_below h2 hbr7).kept hg5 (.inr fun he => h4 (by simpa [Value.ownBlock] using he)), Nat.lt_of_lt_of_le h5 hg5.size, hfar g h5 h4⟩
                have hje : j = k := by omega
                subst hje
                have : r' = r := by have := Hr'.out; rw [hr2] at this; exact Option.some.inj this
                subst this
                refine ⟨g9, c9, by rw [List.getElem?_append_right (by omega), hsl]; simp, (own_mono HO9.out hw2z).kept hg5 (.inr fun he => hne9 (by simpa [Value.ownBlock] using he)), Nat.lt_of_lt_of_le hg9h hg5.size, hfar g9 hg9h hne9⟩
theorem scan_any (B0 db sb : Nat) (L : List Chg) (D : List Tb) (nm : ByteArray) (c : Int) (lo hi : V) (limit : Int) (w : World) (hd : DbAt B0 w db sb L D) (hL : L.length ≤ 100000) (hnm : nm.size ≤ 9223372036854775807) (hlw : wf64 lo.n) (hls : lo.s.size ≤ 4000000) (hhw : wf64 hi.n) (hhs : hi.s.size ≤ 4000000) :
    Calls Tryz.prog 20 #[.pointer (some ⟨db, 0, none⟩), .string nm, .int .i64 c, lo.val, hi.val, .int .i64 limit] w (ScanPost D nm c lo hi limit w) := by
  cases hf : findT D nm 0 with
  | none => exact scan_none B0 db sb L D nm c lo hi limit w hd hnm hf
  | some p =>
    obtain ⟨i, T⟩ := p
    obtain ⟨hT, rfl⟩ := findT_at hf
    exact scan_some B0 db sb L D i T c lo hi limit w hd hL hlw hls hhw hhs hf
end Go.Proofs.YtekokogmnhlchaaGreatDoor
