import Derived.Test.YtekokogmnhlchaaGreatDoorA9
import Derived.Test.YtekokogmnhlchaaGreatDoorC1
import Derived.Test.YtekokogmnhlchaaGreatDoorA2
import Derived.Test.YtekokogmnhlchaaGreatDoorA6
set_option linter.unusedSimpArgs false
set_option linter.unusedVariables false
set_option linter.unusedSectionVars false
namespace Go.Proofs.YtekokogmnhlchaaGreatDoor
open Go.RowKit
theorem size_any (B0 db sb : Nat) (L : List Chg) (D : List Tb) (i : Nat) (T : Tb) (tv : Value) (w : World) (hd : DbAt B0 w db sb L D) (hT : D[i]? = some T) (ht : TabV db i T.s w tv) :
    Calls Tryz.prog 62 #[tv] w fun e w' => e = .returned (.tuple #[.int .i64 T.rows.length, .int .i64 0]) ∧ Below w.heap.size w w' := by
  obtain ⟨CA, cc, XA, xc, rfl, _⟩ := ht
  have hi4 := hd.ok.lt4 hT
  have h64 := hd.ok.n64 i T hT
  have hcnt := Rep.cnt_of hd.cnt hd.ok hT
  have hb1 := (Below.refl w.heap.size w).alloc (Nat.le_refl _) (.cells #[.pointer (some ⟨db, 0, none⟩), .int .u8 (i : Nat), .string T.s.name, .slice CA T.s.cols.length cc, .slice XA T.s.ixs.length xc] 113)
  have hb2 := hb1.alloc hb1.size (.cells #[.int .u8 (i : Nat)] 5)
  have n0 := C.new w #[.pointer (some ⟨db, 0, none⟩), .int .u8 (i : Nat), .string T.s.name, .slice CA T.s.cols.length cc, .slice XA T.s.ixs.length xc] 113 0 (v := .pointer (some ⟨db, 0, none⟩)) rfl
  have n1 := C.new w #[.pointer (some ⟨db, 0, none⟩), .int .u8 (i : Nat), .string T.s.name, .slice CA T.s.cols.length cc, .slice XA T.s.ixs.length xc] 113 1 (v := .int .u8 (i : Nat)) rfl
  have hk : RB ((w.alloc (.cells #[.pointer (some ⟨db, 0, none⟩), .int .u8 (i : Nat), .string T.s.name, .slice CA T.s.cols.length cc, .slice XA T.s.ixs.length xc] 113)).alloc (.cells #[.int .u8 (i : Nat)] 5)) (some ⟨w.heap.size + 1, 0, none⟩) 1 [UInt8.ofNat i] := by
    have := Rd.lit (w.alloc (.cells #[.pointer (some ⟨db, 0, none⟩), .int .u8 (i : Nat), .string T.s.name, .slice CA T.s.cols.length cc, .slice XA T.s.ixs.length xc] 113)) #[.int .u8 (i : Nat)] 5 1 1 (w.heap.size + 1) (by simp) rfl
    rw [RB, show bys [UInt8.ofNat i] = [.int .u8 (i : Nat)] by rw [u8_small (i : Nat) (by omega) (by omega)]; simp [bys]]
    exact this
  have hD2 := hd.below hb2
  have hget := dget2 B0 db sb L 3 _ 1 1 _ _ hD2.d hk (by omega) (by omega) (by omega) (by omega) (fun x hx => (hD2.small x hx).1)
  have Hb := hide hb2
  have Hget := hide hget
  have Hsm := hide hd.small
  clear hget hk hD2 hb1 hb2 hd
  go_enter Tryz.func62, Tryz.ntmps62
  go_wp2_with fail
  refine Hget.out.mono ?_
  rintro e w2 ⟨A, n, c, rfl, hrd, hnone, hb⟩
  have HB := hide (below_then Hb.out Hb.out.size hb)
  rcases hcnt with ⟨h0, hl0⟩ | h1
  · rw [h0] at hrd hnone ⊢
    have hn0 := hnone rfl (fun x hx => (Hsm.out x hx).2.2)
    subst hn0
    rw [show (none : Option (List UInt8)).isSome = false from rfl]
    clear hrd hb Hb Hget hnone hT Hsm
    go_wp2_with fail
    go_ret2
    exact ⟨by rw [hl0]; rfl, HB.out⟩
  rw [h1] at hrd hnone ⊢
  obtain ⟨hrd, _⟩ := hrd _ rfl
  have hrb := hrd.rd
  have hn : n = 1 := by have := RB.len hrb; simpa using this.symm
  subst hn
  obtain ⟨b, o, rfl, hc⟩ := RB.head hrb
  have hwi : ((UInt8.ofNat T.rows.length).toNat : Int) = T.rows.length := by rw [ofNat_cell]; omega
  rw [hwi] at hc
  rw [show (some [UInt8.ofNat T.rows.length]).isSome = true from rfl]
  have hw64 : IntKind.i64.wrap (T.rows.length : Int) = T.rows.length := by rw [IntKind.wrap_i64]; omega
  clear hrd hrb hb Hb Hget hnone hT hwi Hsm
  go_wp2_with fail
  go_ret2
  exact ⟨rfl, HB.out⟩
set_option maxHeartbeats 800000 in
theorem count_any (B0 db sb : Nat) (L : List Chg) (D : List Tb) (i : Nat) (s : Sch) (tv : Value) (k : Nat) (w : World) (hd : DraftAt B0 w db sb L) (ht : TabV db i s w tv) (hi : i < 256) (hk : k < 256) (hL : L.length ≤ 1000000) (hB0 : B0 ≤ w.heap.size) :
    Calls Tryz.prog 65 #[tv, .int .i64 k] w (PutPost B0 db sb w (L ++ [cntC i k])) := by
  obtain ⟨CA, cc, XA, xc, rfl, _⟩ := ht
  have hb1 := (Below.refl w.heap.size w).alloc (Nat.le_refl _) (.cells #[.pointer (some ⟨db, 0, none⟩), .int .u8 (i : Nat), .string s.name, .slice CA s.cols.length cc, .slice XA s.ixs.length xc] 113)
  have hb2 := hb1.alloc hb1.size (.cells #[.int .u8 (i : Nat)] 5)
  have hb3 := hb2.alloc hb2.size (.cells #[.int .u8 (k : Nat)] 5)
  have n0 := C.new w #[.pointer (some ⟨db, 0, none⟩), .int .u8 (i : Nat), .string s.name, .slice CA s.cols.length cc, .slice XA s.ixs.length xc] 113 0 (v := .pointer (some ⟨db, 0, none⟩)) rfl
  have n1 := C.new w #[.pointer (some ⟨db, 0, none⟩), .int .u8 (i : Nat), .string s.name, .slice CA s.cols.length cc, .slice XA s.ixs.length xc] 113 1 (v := .int .u8 (i : Nat)) rfl
  obtain ⟨W1, hW1⟩ : ∃ W1, w.alloc (.cells #[.pointer (some ⟨db, 0, none⟩), .int .u8 (i : Nat), .string s.name, .slice CA s.cols.length cc, .slice XA s.ixs.length xc] 113) = W1 := ⟨_, rfl⟩
  have hz1 : W1.heap.size = w.heap.size + 1 := by rw [← hW1]; simp
  rw [hW1] at hb1 hb2 hb3 n0 n1
  have h1 : RB (W1.alloc (.cells #[.int .u8 (i : Nat)] 5)) (some ⟨w.heap.size + 1, 0, none⟩) 1 [UInt8.ofNat i] := by
    have := Rd.lit W1 #[.int .u8 (i : Nat)] 5 1 1 (w.heap.size + 1) hz1.symm rfl
    rw [RB, show bys [UInt8.ofNat i] = [.int .u8 (i : Nat)] by rw [u8_small (i : Nat) (by omega) (by omega)]; simp [bys]]
    exact this
  have h2 : RB ((W1.alloc (.cells #[.int .u8 (i : Nat)] 5)).alloc (.cells #[.int .u8 (k : Nat)] 5)) (some ⟨w.heap.size + 2, 0, none⟩) 1 [UInt8.ofNat k] := by
    have := Rd.lit (W1.alloc (.cells #[.int .u8 (i : Nat)] 5)) #[.int .u8 (k : Nat)] 5 1 1 (w.heap.size + 2) (by simp [hz1]) rfl
    rw [RB, show bys [UInt8.ofNat k] = [.int .u8 (k : Nat)] by rw [u8_small (k : Nat) (by omega) (by omega)]; simp [bys]]
    exact this
  have hput := dput_any B0 db sb L 3 _ _ 1 1 1 1 _ _ _ (hd.below hb3) (h1.alloc _) h2 (by omega) (by omega) (by omega) (by omega) (by omega) hL (Nat.le_trans hB0 hb3.size)
  have hw8 : IntKind.u8.wrap (k : Int) = k := wrap_u8 _ (by omega) (by omega)
  have Hb3 := hide hb3
  have hlt := hd.lt
  have Hput := hide hput
  have Hz := hide hz1
  clear hput h1 h2 hb1 hb2 hb3 hd hz1
  go_enter Tryz.func65, Tryz.ntmps65
  go_wp2_with fail
  rw [← show W1.heap.size = w.heap.size + 1 from Hz.out] at Hput
  have Hput' := Hput.out
  rw [show w.heap.size + 2 = W1.heap.size + 1 by have := Hz.out; omega] at Hput'
  refine Hput'.mono ?_
  rintro e w5 ⟨rfl, hd5, hu5⟩
  have H5 := hide hd5
  have HU := hide ((Upd.of_below Hb3.out hlt).trans hu5)
  clear hd5 hu5 Hput Hput'
  go_wp2
  go_ret
  exact ⟨rfl, H5.out, HU.out⟩
def TabS (B0 db id : Nat) (s : Sch) (w : World) (tv : Value) : Prop := ∃ A c B d, tv = .agg #[.pointer (some ⟨db, 0, none⟩), .int .u8 (id : Nat), .string s.name, .slice A s.cols.length c, .slice B s.ixs.length d] ∧ s.cols.length ≤ c ∧ s.ixs.length ≤ d ∧ RdS B0 w 3 A s.cols.length (s.cols.flatMap Col.cells) ∧ RdS B0 w 2 B s.ixs.length (s.ixs.flatMap Ix.cells)
theorem TabS.v {B0 db id : Nat} {s : Sch} {w : World} {tv : Value} (h : TabS B0 db id s w tv) : TabV db id s w tv := by
  obtain ⟨A, c, B, d, e, h1, h2, h3, h4⟩ := h
  exact ⟨A, c, B, d, e, A, c, B, d, rfl, h1, h2, h3.rd, h4.rd⟩
theorem TabS.below {B0 db id : Nat} {s : Sch} {w w' : World} {tv : Value} (h : TabS B0 db id s w tv) (hb : Below w.heap.size w w') : TabS B0 db id s w' tv := by
  obtain ⟨A, c, B, d, e, h1, h2, h3, h4⟩ := h
  exact ⟨A, c, B, d, e, h1, h2, h3.below hb, h4.below hb⟩
theorem TabS.upd {B0 db sb id : Nat} {L : List Chg} {s : Sch} {w w' : World} {tv : Value} (h : TabS B0 db id s w tv) (hd : DraftAt B0 w db sb L) (hu : Upd db w w') : TabS B0 db id s w' tv := by
  obtain ⟨A, c, B, d, e, h1, h2, h3, h4⟩ := h
  exact ⟨A, c, B, d, e, h1, h2, h3.upd hd hu, h4.upd hd hu⟩
set_option maxHeartbeats 3200000 in
set_option maxRecDepth 1000000 in
theorem find_some_ (B0 db sb : Nat) (L : List Chg) (D : List Tb) (nm : ByteArray) (i : Nat) (T : Tb) (w : World) (hd : DbAt B0 w db sb L D) (hf : findT D nm 0 = some (i, T)) :
    Calls Tryz.prog 59 #[.pointer (some ⟨db, 0, none⟩), .string nm] w fun e w' => ∃ tv, e = .returned (.tuple #[tv, .int .i64 0]) ∧ TabS B0 db i T.s w' tv ∧ Below w.heap.size w w' := by
  obtain ⟨hT, rfl⟩ := findT_at hf
  have hrt := hd.ok.right i T hT
  have hi4 := hd.ok.lt4 hT
  have hn := (right_facts hrt).nm
  have hsz := name_size hn
  have hel := encS_len hrt
  have hres := Blk.new w zTab 113
  have hb0 := (Below.refl w.heap.size w).alloc (Nat.le_refl _) (.cells zTab 113)
  have hnm := name_any T.s.name (w.alloc (.cells zTab 113)) (by omega)
  rw [hn] at hnm
  have hg := hd.rep.find_some hT
  have HD := hide hd
  have Hg := hide hg
  have Hnm := hide hnm
  have Hres := hide hres
  have Hb0 := hide hb0
  have Hrt := hide hrt
  obtain ⟨en, hen⟩ : ∃ en, (encS T.s).length = en := ⟨_, rfl⟩
  have Hen := hide hen
  have hepos : 0 < (encS T.s).length := by simp [encS, encB]
  rw [hen] at hel hepos
  clear hnm hres hb0 hd hn hg hT hf hrt hen
  go_enter Tryz.func59, Tryz.ntmps59
  go_wp2_with fail
  refine Hnm.out.mono ?_
  rintro e w1 ⟨rfl, hb1⟩
  have hR := Hres.out.below hb1
  have hB := below_then Hb0.out Hb0.out.size hb1
  obtain ⟨A, c, w2, hcv, hrk, hb2, hc⟩ := run_conv w1 T.s.name
  have hR2 := hR.below hb2
  have hB2 := below_then hB hB.size hb2
  have hD2 := HD.out.below hB2
  have hget := dget2 B0 db sb L 0 A T.s.name.size c T.s.name.data.toList w2 hD2.d hrk (by omega) (by omega) (by omega) (by omega) (fun x hx => (hD2.small x hx).1)
  rw [Hg.out] at hget
  have Hget := hide hget
  have HR2 := hide hR2
  have HB2 := hide hB2
  clear hR hB hb1 hrk hb2 hR2 hB2 hD2 hget Hres Hb0 Hnm HD
  go_wp2_with fail
  refine Hget.out.mono ?_
  rintro e w3 ⟨A3, n3, c3, rfl, hrd, _, hb3⟩
  obtain ⟨hrd, hnc⟩ := hrd _ rfl
  have hrb := hrd.rd
  have hl3 : n3 = 1 + en := by have h1 := RB.len hrb; have h2 := Hen.out; simp only [List.length_cons] at h1; omega
  obtain ⟨b, o, rfl, hcell⟩ := RB.head hrb
  have hrb1 := RB.drop_ (x := [UInt8.ofNat i]) hrb (n3 - 1) rfl
  subst hl3
  rw [show 1 + en - 1 = en by omega] at hrb1
  have hdec := decode_ok T.s (some ⟨b, o + 1, none⟩) en (c3 - 1) w3 hrb1 Hrt.out (by omega) (by omega)
  have hR3 := HR2.out.below hb3
  have hB3 := below_then HB2.out HB2.out.size hb3
  have h3 : ((1 + (en : Int)) == 0) = false := by simp; omega
  have hcpos : ¬ ((c3 : Int) - 1 = 0) := by omega
  have hcp2 : ¬ (c3 - 1 = 0) := by omega
  have e2 : ((c3 : Int) - 1).toNat = c3 - 1 := by omega
  rw [show (some (UInt8.ofNat i :: encS T.s)).isSome = true from rfl]
  have HR3 := hide hR3
  have HB3 := hide hB3
  have Hdec := hide hdec
  have hwi : ((UInt8.ofNat i).toNat : Int) = i := by rw [ofNat_cell]; omega
  rw [hwi] at hcell
  clear hrd hrb hrb1 hdec hR3 hB3 HR2 HB2 Hget hb3 hcv
  go_wp2_with fail
  refine Hdec.out.mono ?_
  rintro e w4 ⟨sv, rfl, ⟨CA, cc, XA, xc, rfl, k1, k2, k3, k4⟩, hb4⟩
  have hsv : SchO w3.heap.size w4 T.s _ := ⟨CA, cc, XA, xc, rfl, k1, k2, k3, k4⟩
  have hw3 : w.heap.size < w3.heap.size := HR3.out.lt
  have hN := Blk.new w4 #[.string T.s.name, .slice CA T.s.cols.length cc, .slice XA T.s.ixs.length xc] 25
  have hal := (Below.refl w4.heap.size w4).alloc (Nat.le_refl _) (.cells #[.string T.s.name, .slice CA T.s.cols.length cc, .slice XA T.s.ixs.length xc] 25)
  have hR := (HR3.out.below hb4).below hal
  have hB := below_then HB3.out HB3.out.size (below_chain hb4 hal)
  have hc2 := (hcell.below hb4).below hal
  have hsv2 := hsv.below hal
  have HX1 := hide hR
  have HX2 := hide hB
  have HX3 := hide hc2
  have HX4 := hide hsv2
  have HX5 := hide hN
  clear hR hB hc2 hsv2 hN hal hsv hb4 HR3 HB3 Hdec hcell k3 k4 hcpos hcp2 e2
  go_wp2_with fail
  have hR := HX1.out
  have hN := HX5.out
  have hc2 := HX3.out
  have hbR : w.heap.size ≠ w4.heap.size := by have h1 := hN.lt; have h2 := HX2.out.size; intro he; rw [← he] at hN; have h4 : _ = _ := hN; have h5 : _ = _ := hR; rw [h4] at h5; cases h5
  generalize w4.alloc (.cells #[.string T.s.name, .slice CA T.s.cols.length cc, .slice XA T.s.ixs.length xc] 25) = W at *
  generalize w4.heap.size = tb at *
  have f0 := hR.fr 0
  have f1 := hR.fr 1
  have f2 := hR.fr 2
  have f3 := hR.fr 3
  have f4 := hR.fr 4
  have c0 := hR.c 0 (v := .pointer none) rfl
  have c1 := hR.c 1 (v := .int .u8 0) rfl
  have c2 := hR.c 2 (v := .string ⟨#[]⟩) rfl
  have c3' := hR.c 3 (v := .slice none 0 0) rfl
  have c4 := hR.c 4 (v := .slice none 0 0) rfl
  have t0 := hN.c 0 (v := .string T.s.name) rfl
  have t1 := hN.c 1 (v := .slice CA T.s.cols.length cc) rfl
  have t2 := hN.c 2 (v := .slice XA T.s.ixs.length xc) rfl
  go_region_with (fail)
  all_goals
    have hF := ((((((hR).set 0 (.pointer (some ⟨db, 0, none⟩))).set 1 (.int .u8 i)).set 2 (.string T.s.name)).set 3 (.slice CA T.s.cols.length cc)).set 4 (.slice XA T.s.ixs.length xc)).drew
    have d0 := hF.c 0 (v := .pointer (some ⟨db, 0, none⟩)) rfl
    have d1 := hF.c 1 (v := .int .u8 i) rfl
    have d2 := hF.c 2 (v := .string T.s.name) rfl
    have d3 := hF.c 3 (v := .slice CA T.s.cols.length cc) rfl
    have d4 := hF.c 4 (v := .slice XA T.s.ixs.length xc) rfl
    have hBF := ((((((HX2.out).setCell (p := ⟨w.heap.size, 0, none⟩) (by simp) (.pointer (some ⟨db, 0, none⟩))).setCell (p := ⟨w.heap.size, 1, none⟩) (by simp) (.int .u8 i)).setCell (p := ⟨w.heap.size, 2, none⟩) (by simp) (.string T.s.name)).setCell (p := ⟨w.heap.size, 3, none⟩) (by simp) (.slice CA T.s.cols.length cc)).setCell (p := ⟨w.heap.size, 4, none⟩) (by simp) (.slice XA T.s.ixs.length xc)).drew
    have HBF := hide hBF
    clear hBF hF
    go_simp
    go_wp2
    refine bodyPost_ret (v := .tuple #[.agg #[.pointer (some ⟨db, 0, none⟩), .int .u8 i, .string T.s.name, .slice CA T.s.cols.length cc, .slice XA T.s.ixs.length xc], .int .i64 0]) (by simp [results, Tryz.results59, go_sem, d0, d1, d2, d3, d4]) rfl ?_
    have hso := (((((HX4.out.set (a := ⟨w.heap.size, 0, none⟩) hw3 (.pointer (some ⟨db, 0, none⟩))).set (a := ⟨w.heap.size, 1, none⟩) hw3 (.int .u8 i)).set (a := ⟨w.heap.size, 2, none⟩) hw3 (.string T.s.name)).set (a := ⟨w.heap.size, 3, none⟩) hw3 (.slice CA T.s.cols.length cc)).set (a := ⟨w.heap.size, 4, none⟩) hw3 (.slice XA T.s.ixs.length xc)).drew
    obtain ⟨A1, q1, B1, q2, he, k5, k6, k7, k8⟩ := hso
    injection he with he
    have he2 := congrArg (fun a => a[1]?) he
    have he3 := congrArg (fun a => a[2]?) he
    simp at he2 he3
    obtain ⟨rfl, rfl⟩ := he2
    obtain ⟨rfl, rfl⟩ := he3
    exact ⟨_, rfl, ⟨_, _, _, _, rfl, k5, k6, RdS.of_own k7 (by decide) (by decide), RdS.of_own k8 (by decide) (by decide)⟩, HBF.out⟩
theorem keyV_big {v : V} (h : okV v) : (keyV v).length ≤ 100000000 := by
  rcases right_kinds h.1 with ⟨h0, _⟩ | ⟨h0, _⟩ | ⟨h0, h1, h2⟩ | ⟨h0, _⟩
  · simp [keyV, h0]
  · simp [keyV, h0, eightB_be, be_len]
  · have := runesB_len v.s
    have := h.2.2
    simp only [keyV, h0]
    simp; omega
  simp [keyV, h0]
def HeldE (T : Tb) (key : V) : Int := if rightV key = 0 then (if (wasT T key).isSome then 0 else 4) else 62
def HeldP (base : Nat) (T : Tb) (key : V) (w' : World) (e : Ending) : Prop :=
  if HeldE T key = 0 then ∃ r A c, wasT T key = some r ∧ e = .returned (.tuple #[.slice A r.length c, .int .i64 0]) ∧ w'.ownsRow base 28 3 (.slice A r.length c) r.length (rowCells r)
  else e = .returned (.tuple #[.slice none 0 0, .int .i64 (HeldE T key)])
set_option maxHeartbeats 1600000 in
set_option maxRecDepth 1000000 in
theorem held_any (B0 db sb : Nat) (L : List Chg) (D : List Tb) (i : Nat) (T : Tb) (tv : Value) (v : V) (hvw : wf64 v.n) (hvs : v.s.size ≤ 4000000) (w : World) (hd : DbAt B0 w db sb L D) (hT : D[i]? = some T) (ht : TabV db i T.s w tv) :
    Calls Tryz.prog 73 #[tv, v.val] w fun e w' => HeldP w.heap.size T v w' e ∧ Below w.heap.size w w' := by
  have ht' := ht
  obtain ⟨CA, cc, XA, xc, rfl, hsv⟩ := ht
  obtain ⟨W0, hW0⟩ : ∃ W0, (w.alloc (.cells #[.pointer (some ⟨db, 0, none⟩), .int .u8 (i : Nat), .string T.s.name, .slice CA T.s.cols.length cc, .slice XA T.s.ixs.length xc] 113)).alloc (.cells #[.int .i64 v.k, .int .i64 v.n, .string v.s] 28) = W0 := ⟨_, rfl⟩
  have hb1 := (Below.refl w.heap.size w).alloc (Nat.le_refl _) (.cells #[.pointer (some ⟨db, 0, none⟩), .int .u8 (i : Nat), .string T.s.name, .slice CA T.s.cols.length cc, .slice XA T.s.ixs.length xc] 113)
  have hb2 := hb1.alloc hb1.size (.cells #[.int .i64 v.k, .int .i64 v.n, .string v.s] 28)
  have hB1 := (Blk.new w #[.pointer (some ⟨db, 0, none⟩), .int .u8 (i : Nat), .string T.s.name, .slice CA T.s.cols.length cc, .slice XA T.s.ixs.length xc] 113).alloc (.cells #[.int .i64 v.k, .int .i64 v.n, .string v.s] 28)
  have e1 : (w.alloc (.cells #[.pointer (some ⟨db, 0, none⟩), .int .u8 (i : Nat), .string T.s.name, .slice CA T.s.cols.length cc, .slice XA T.s.ixs.length xc] 113)).heap.size = w.heap.size + 1 := by simp
  have hB2 := Blk.new (w.alloc (.cells #[.pointer (some ⟨db, 0, none⟩), .int .u8 (i : Nat), .string T.s.name, .slice CA T.s.cols.length cc, .slice XA T.s.ixs.length xc] 113)) #[.int .i64 v.k, .int .i64 v.n, .string v.s] 28
  rw [e1] at hB2
  rw [hW0] at hb2 hB1 hB2
  have hrt := right_any v W0 (by omega) (hd.tabs.below hb2)
  have m0 := hB2.c 0 (v := .int .i64 v.k) rfl
  have m1 := hB2.c 1 (v := .int .i64 v.n) rfl
  have m2 := hB2.c 2 (v := .string v.s) rfl
  have Hb2 := hide hb2
  have HB1 := hide hB1
  have HB2 := hide hB2
  have Hrt := hide hrt
  have Hd := hide hd
  have Ht := hide ht'
  have HT := hide hT
  clear hb1 hb2 hB1 hB2 e1 hrt hd ht' hsv hT
  obtain ⟨rv, hrv⟩ : ∃ rv, rightV v = rv := ⟨_, rfl⟩
  rw [hrv] at Hrt
  have Hrv := hide hrv
  clear hrv
  go_enter Tryz.func73, Tryz.ntmps73
  go_wp2_with fail
  refine Hrt.out.mono ?_
  rintro e w1 ⟨rfl, hb1⟩
  have HB11 := hide (HB1.out.below hb1)
  have HB21 := hide (HB2.out.below hb1)
  have Hb1 := hide (below_then Hb2.out Hb2.out.size hb1)
  clear hb1 hW0 m0 m1 m2 HB1 HB2 Hrt
  by_cases hr0 : rv = 0
  rotate_left
  · have h62 : HeldE T v = 62 := by rw [HeldE, if_neg (by rw [Hrv.out]; exact hr0)]
    have t1 : (rv != 0) = true := by simpa using hr0
    have H62 := hide h62
    clear h62
    go_wp2_with fail
    go_ret2
    refine ⟨?_, Hb1.out⟩
    rw [HeldP, if_neg (by rw [H62.out]; decide), H62.out]
    rfl
  subst hr0
  have hok : okV v := ⟨Hrv.out, hvw, hvs⟩
  have hlen : (keyV v).length ≤ 100000000 := keyV_big hok
  have q := HB11.out
  have m0 := HB21.out.c 0 (v := .int .i64 v.k) rfl
  have m1 := HB21.out.c 1 (v := .int .i64 v.n) rfl
  have m2 := HB21.out.c 2 (v := .string v.s) rfl
  have n0 := q.c 0 (v := .pointer (some ⟨db, 0, none⟩)) rfl
  have n1 := q.c 1 (v := .int .u8 (i : Nat)) rfl
  have n2 := q.c 2 (v := .string T.s.name) rfl
  have n3 := q.c 3 (v := .slice CA T.s.cols.length cc) rfl
  have n4 := q.c 4 (v := .slice XA T.s.ixs.length xc) rfl
  have hget := get_any B0 db sb L D i T _ v hok hlen w1 (Hd.out.below Hb1.out) HT.out (Ht.out.below Hb1.out)
  have Hget := hide hget
  have Hsz := hide Hb1.out.size
  clear hget q hlen hok
  go_wp2_with fail
  cases hw : wasT T v with
  | none =>
    have h4 : HeldE T v = 4 := by rw [HeldE, if_pos Hrv.out, hw]; rfl
    have hg : Calls Tryz.prog 61 _ w1 (fun e w' => e = .returned (.tuple #[.slice none 0 0, .bool false, .int .i64 0]) ∧ Below w1.heap.size w1 w') := Hget.out.mono fun e w' h => by
      have h1 := h.1
      rw [GetRow, hw] at h1
      exact ⟨h1, h.2⟩
    refine hg.mono ?_
    rintro e w2 ⟨rfl, hb2⟩
    have HbF := hide (below_then Hb1.out Hb1.out.size hb2)
    have H4 := hide h4
    clear hg hb2 hw m0 m1 m2 n0 n1 n2 n3 n4 Hget h4
    go_wp2_with fail
    go_ret2
    refine ⟨?_, HbF.out⟩
    rw [HeldP, if_neg (by rw [H4.out]; decide), H4.out]
    rfl
  | some r =>
    have h0 : HeldE T v = 0 := by rw [HeldE, if_pos Hrv.out, hw]; rfl
    have hg : Calls Tryz.prog 61 _ w1 (fun e w' => (∃ A c, e = .returned (.tuple #[.slice A r.length c, .bool true, .int .i64 0]) ∧ w'.ownsRow w1.heap.size 28 3 (.slice A r.length c) r.length (rowCells r)) ∧ Below w1.heap.size w1 w') := Hget.out.mono fun e w' h => by
      have h1 := h.1
      rw [GetRow, hw] at h1
      exact ⟨h1, h.2⟩
    refine hg.mono ?_
    rintro e w2 ⟨⟨A2, c2, rfl, hown2⟩, hb2⟩
    have HbF := hide (below_then Hb1.out Hb1.out.size hb2)
    have HO := hide (own_mono hown2 Hsz.out)
    have H0 := hide h0
    have Hw := hide hw
    clear hg hb2 hw m0 m1 m2 n0 n1 n2 n3 n4 Hget h0 hown2
    go_wp2_with fail
    go_ret2
    refine ⟨?_, HbF.out⟩
    rw [HeldP, if_pos H0.out]
    exact ⟨r, A2, c2, Hw.out, rfl, HO.out⟩
def GetOp (base : Nat) (D : List Tb) (nm : ByteArray) (v : V) (w' : World) (e : Ending) : Prop := match findT D nm 0 with
  | none => e = .returned (.tuple #[.slice none 0 0, .int .i64 60])
  | some (_, T) => HeldP base T v w' e
set_option maxHeartbeats 3200000 in
set_option maxRecDepth 1000000 in
theorem getop_any (B0 db sb : Nat) (L : List Chg) (D : List Tb) (nm : ByteArray) (v : V) (hvw : wf64 v.n) (hvs : v.s.size ≤ 4000000) (w : World) (hd : DbAt B0 w db sb L D) (hnm : nm.size ≤ 9223372036854775807) :
    Calls Tryz.prog 27 #[.pointer (some ⟨db, 0, none⟩), .string nm, v.val] w fun e w' => GetOp w.heap.size D nm v w' e ∧ Below w.heap.size w w' := by
  have hal0 := (Below.refl w.heap.size w).alloc (Nat.le_refl _) (.cells #[.int .i64 v.k, .int .i64 v.n, .string v.s] 28)
  have hkb := Blk.new w #[.int .i64 v.k, .int .i64 v.n, .string v.s] 28
  obtain ⟨W0, hW0⟩ : ∃ W0, w.alloc (.cells #[.int .i64 v.k, .int .i64 v.n, .string v.s] 28) = W0 := ⟨_, rfl⟩
  rw [hW0] at hal0 hkb
  have hd0 := hd.below hal0
  have HD := hide hd
  have Hal0 := hide hal0
  have Hkb := hide hkb
  unfold GetOp
  cases hf : findT D nm 0 with
  | none =>
    have hfn := find_none_ B0 db sb L D nm W0 hd0 hnm hf
    have Hfn := hide hfn
    clear hfn hf hd hd0 hal0 hkb
    go_enter Tryz.func27, Tryz.ntmps27
    go_wp2_with fail
    refine Hfn.out.mono ?_
    rintro e w1 ⟨rfl, hb1⟩
    have Hb1 := hide (below_then Hal0.out Hal0.out.size hb1)
    clear hb1 Hfn
    unfold zTab
    go_wp2_with fail
    go_ret2
    exact ⟨rfl, Hb1.out.alloc Hb1.out.size _⟩
  | some p =>
    obtain ⟨i, T⟩ := p
    obtain ⟨hT, rfl⟩ := findT_at hf
    have hfs := find_some_ B0 db sb L D T.s.name i T W0 hd0 hf
    have Hfs := hide hfs
    have HT := hide hT
    clear hfs hT hf hd hd0 hal0 hkb
    go_enter Tryz.func27, Tryz.ntmps27
    go_wp2_with fail
    refine Hfs.out.mono ?_
    rintro e w1 ⟨tv, rfl, hts, hb1⟩
    have hts' := hts
    obtain ⟨CA, cc, XA, xc, rfl, k1, k2, k3, k4⟩ := hts
    have hal := (Below.refl w1.heap.size w1).alloc (Nat.le_refl _) (.cells #[.pointer (some ⟨db, 0, none⟩), .int .u8 (i : Nat), .string T.s.name, .slice CA T.s.cols.length cc, .slice XA T.s.ixs.length xc] 113)
    have hkb := (Hkb.out.below hb1).below hal
    have m0 := hkb.c 0 (v := .int .i64 v.k) rfl
    have m1 := hkb.c 1 (v := .int .i64 v.n) rfl
    have m2 := hkb.c 2 (v := .string v.s) rfl
    have hbW := below_chain (below_chain Hal0.out hb1) hal
    have hheld := held_any B0 db sb L D i T _ v hvw hvs (w1.alloc (.cells #[.pointer (some ⟨db, 0, none⟩), .int .u8 (i : Nat), .string T.s.name, .slice CA T.s.cols.length cc, .slice XA T.s.ixs.length xc] 113)) (HD.out.below hbW) HT.out (hts'.v.below hal)
    have Hheld := hide hheld
    have HbW := hide hbW
    clear hheld hbW hal hb1 hts' k1 k2 k3 k4 Hfs hkb
    go_wp2_with fail
    clear hW0
    by_cases hE0 : HeldE T v = 0
    · have hg : Calls Tryz.prog 73 _ _ (fun e w' => (∃ r A c, wasT T v = some r ∧ e = .returned (.tuple #[.slice A r.length c, .int .i64 0]) ∧ w'.ownsRow (w1.alloc (.cells #[.pointer (some ⟨db, 0, none⟩), .int .u8 (i : Nat), .string T.s.name, .slice CA T.s.cols.length cc, .slice XA T.s.ixs.length xc] 113)).heap.size 28 3 (.slice A r.length c) r.length (rowCells r)) ∧ Below _ _ w') := Hheld.out.mono fun e w' h => by
        have h1 := h.1
        rw [HeldP, if_pos hE0] at h1
        exact ⟨h1, h.2⟩
      refine hg.mono ?_
      rintro e w2 ⟨⟨r, A2, c2, hw, rfl, hown2⟩, hb2⟩
      have hbw2 := hide (below_then HbW.out HbW.out.size hb2)
      have HO := hide (own_mono hown2 HbW.out.size)
      have Hw := hide hw
      have HE0 := hide hE0
      clear hg hb2 hown2 hw Hheld m0 m1 m2 hE0
      go_wp2_with fail
      go_ret2
      refine ⟨?_, hbw2.out⟩
      show HeldP _ T v _ _
      rw [HeldP, if_pos HE0.out]
      exact ⟨r, A2, c2, Hw.out, rfl, HO.out⟩
    have hg : Calls Tryz.prog 73 _ _ (fun e w' => e = .returned (.tuple #[.slice none 0 0, .int .i64 (HeldE T v)]) ∧ Below _ _ w') := Hheld.out.mono fun e w' h => by
      have h1 := h.1
      rw [HeldP, if_neg hE0] at h1
      exact ⟨h1, h.2⟩
    refine hg.mono ?_
    rintro e w2 ⟨rfl, hb2⟩
    have hbw2 := hide (below_then HbW.out HbW.out.size hb2)
    have HE0 := hide hE0
    clear hg hb2 Hheld m0 m1 m2 hE0
    go_wp2_with fail
    go_ret2
    refine ⟨?_, hbw2.out⟩
    show HeldP _ T v _ _
    rw [HeldP, if_neg HE0.out]
    rfl
theorem nodup_len {α : Type} : ∀ {a b : List α}, a.Nodup → (∀ x, x ∈ a → x ∈ b) → a.length ≤ b.length
  | [], _, _, _ => Nat.zero_le _
  | x :: a, b, hd, hs => by
    obtain ⟨h1, h2⟩ := List.nodup_cons.1 hd
    obtain ⟨s, t, rfl⟩ := List.append_of_mem (hs x (by simp))
    have := nodup_len (b := s ++ t) h2 fun y hy => by
      have h3 := hs y (by simp [hy])
      simp only [List.mem_append, List.mem_cons] at h3 ⊢
      rcases h3 with h3 | h3 | h3
      · exact .inl h3
      · subst h3; exact absurd hy h1
      exact .inr h3
    simp only [List.length_append, List.length_cons] at this ⊢
    omega
def nameOf (p : List UInt8 × List UInt8) : ByteArray := strB p.1
theorem nameOf_data (p : List UInt8 × List UInt8) : (nameOf p).data.toList = p.1 := by simp [nameOf, strB]
structure NamesL (D : List Tb) (ns : List ByteArray) : Prop where
  len : ns.length = D.length
  mem : ∀ nm, nm ∈ ns ↔ ∃ (i : Nat) (T : Tb), D[i]? = some T ∧ T.s.name = nm
  srt : ns.Pairwise fun a b => cmpB a.data.toList b.data.toList < 0
theorem names_of {L : List Chg} {D : List Tb} {l : List (List UInt8 × List UInt8)} (hr : RangeL L 0 [] [] l) (hp : Rep L D) (ho : Ok D) : NamesL D (l.map nameOf) := by
  have hin : ∀ k, inB [] [] k := fun k => ⟨by have := cmpB_nil_le k; have := cmpB_swap k []; omega, .inl rfl⟩
  have hmem : ∀ nm, nm ∈ l.map nameOf ↔ ∃ (i : Nat) (T : Tb), D[i]? = some T ∧ T.s.name = nm := by
    intro nm
    constructor
    · intro h
      obtain ⟨p, hpm, rfl⟩ := List.mem_map.1 h
      obtain ⟨k, v⟩ := p
      obtain ⟨i, T, hT, rfl, _⟩ := (hp.t k v).1 ((hr.mem k v).1 hpm).1
      exact ⟨i, T, hT, bytes_inj (by rw [nameOf_data])⟩
    rintro ⟨i, T, hT, rfl⟩
    refine List.mem_map.2 ⟨(T.s.name.data.toList, UInt8.ofNat i :: encS T.s), (hr.mem _ _).2 ⟨(hp.t _ _).2 ⟨i, T, hT, rfl, rfl⟩, hin _⟩, bytes_inj (by rw [nameOf_data])⟩
  have hsrt : (l.map nameOf).Pairwise fun a b => cmpB a.data.toList b.data.toList < 0 := by
    rw [List.pairwise_map]
    exact hr.srt.imp fun {a b} h => by rw [nameOf_data, nameOf_data]; exact h
  have hnd : (l.map nameOf).Nodup := hsrt.imp fun {a b} h he => by rw [he, cmpB_refl] at h; omega
  have hnd2 : (D.map fun T => T.s.name).Nodup := by
    rw [List.Nodup, List.pairwise_map, List.pairwise_iff_getElem]
    intro i j hi hj hij he
    have := ho.names i j D[i] D[j] (List.getElem?_eq_getElem hi) (List.getElem?_eq_getElem hj) he
    omega
  have hsame : ∀ nm, nm ∈ l.map nameOf ↔ nm ∈ D.map fun T => T.s.name := by
    intro nm
    rw [hmem]
    constructor
    · rintro ⟨i, T, hT, rfl⟩
      exact List.mem_map.2 ⟨T, List.mem_of_getElem? hT, rfl⟩
    intro h
    obtain ⟨T, hT, rfl⟩ := List.mem_map.1 h
    obtain ⟨i, hi⟩ := List.getElem?_of_mem hT
    exact ⟨i, T, hi, rfl⟩
  refine ⟨?_, hmem, hsrt⟩
  have h1 := nodup_len hnd fun x hx => (hsame x).1 hx
  have h2 := nodup_len hnd2 fun x hx => (hsame x).2 hx
  simp only [List.length_map] at h1 h2 ⊢
  omega
theorem strT : SlT Tryz.prog 47 9 1 16 := ⟨by
  obtain ⟨i, hi, hz0, hz1, hz2⟩ := info_parts (P := Tryz.prog) (e := 9) (z := .string ⟨#[]⟩) (size := 1) (bytes := 16) (by kernel_rfl)
  exact ⟨i, _, Tryz.underlying47, hi, hz0, hz1, hz2, rfl, by omega⟩⟩
def strs (ns : List ByteArray) : List Value := ns.map .string
def NamesPost (D : List Tb) (w : World) (e : Ending) (w' : World) : Prop := ∃ (ns : List ByteArray) (A : Option Addr) (c : Nat), NamesL D ns ∧ e = .returned (.tuple #[.slice A D.length c, .int .i64 0]) ∧ w'.ownsRow w.heap.size 9 1 (.slice A D.length c) D.length (strs ns) ∧ Below w.heap.size w w'
set_option maxHeartbeats 1600000 in
set_option maxRecDepth 1000000 in
theorem names_any (B0 db sb : Nat) (L : List Chg) (D : List Tb) (w : World) (hd : DbAt B0 w db sb L D) (hL : L.length ≤ 100000) :
    Calls Tryz.prog 25 #[.pointer (some ⟨db, 0, none⟩)] w (NamesPost D w) := by
  have hr := drange_any B0 db sb L 0 none none 0 0 0 0 [] [] 5 w hd.d (Rd.nil _ _ _) (Rd.nil _ _ _) (by omega) (by omega) (by omega) (by omega) hL (fun x hx => ⟨(hd.small x hx).1, (hd.small x hx).2.1⟩) (by omega)
  have Hr := hide hr
  have Hd := hide hd
  clear hr hd
  go_enter Tryz.func25, Tryz.ntmps25
  go_wp2_with fail
  refine Hr.out.mono ?_
  rintro e w1 ⟨l, A, c, rfl, hrl, hrd, hpa, hb1⟩
  have hnl := names_of hrl Hd.out.rep Hd.out.ok
  have h4 := Hd.out.ok.n4
  have hll : l.length = D.length := by have := hnl.len; simpa using this
  have hmin : min l.length 5 = D.length := by omega
  rw [hmin] at hrd ⊢
  rw [List.take_of_length_le (by omega)] at hrd
  obtain ⟨dn, hdn⟩ : ∃ dn, D.length = dn := ⟨_, rfl⟩
  obtain ⟨ns, hns⟩ : ∃ ns, (l.map fun p => (p.key, p.val)).map nameOf = ns := ⟨_, rfl⟩
  have hnsl : ns = l.map fun p => strB p.key := by rw [← hns]; simp [nameOf, Function.comp_def]
  rw [hns] at hnl
  have Hnl := hide hnl
  have Hnsl := hide hnsl
  have Hdn := hide hdn
  rw [hdn] at hrd hll h4 ⊢
  have Hll := hide hll
  have Hrd := hide hrd
  have Hpa := hide hpa
  have Hb1 := hide hb1
  clear hrl hnl hns hnsl hmin hrd hpa hb1 Hr Hd hll hdn
  go_wp2_with fail
  go_loopw [6, 18] (fun out i wr => ∃ (k : Nat) (A' : Option Addr) (c' : Nat), k ≤ dn ∧ i = .int .i64 k ∧ out = .slice A' k c' ∧ Hid (wr.ownsRow w1.heap.size 9 1 (.slice A' k c') k (strs (ns.take k))) ∧ Hid (Below w1.heap.size w1 wr)) (fun _ i _ => dn - (intOf i).toNat)
  case atStart => exact ⟨0, none, 0, Nat.zero_le _, rfl, rfl, hide (World.ownsRow_nil _ _ _ _), hide (Below.refl _ _)⟩
  case round =>
    obtain ⟨k, A', c', hk, rfl, rfl, HO, HB⟩ := hrel
    by_cases hlt : k < dn
    rotate_left
    · have hke : dn = k := by omega
      subst hke
      have hns : ns.take dn = ns := by
        rw [List.take_of_length_le]
        rw [Hnsl.out]; simp [Hll.out]
      have hO := HO.out
      rw [hns] at hO
      have HO2 := hide hO
      clear hO HO hns
      go_wp2_with fail
      go_ret2
      refine ⟨ns, A', c', Hnl.out, ?_, ?_, below_then Hb1.out Hb1.out.size HB.out⟩
      · rw [Hdn.out]; rfl
      rw [Hdn.out]; exact own_mono HO2.out Hb1.out.size
    have hkl : k < l.length := by have := Hll.out; omega
    obtain ⟨b, o, rfl, hc⟩ := Rd.struct (prCells_len 0) l Hll.out (Hrd.out.below HB.out) k hkl
    obtain ⟨x, hx⟩ : ∃ x, l[k] = x := ⟨_, rfl⟩
    have hm : x ∈ l := by rw [← hx]; exact List.getElem_mem _
    rw [hx] at hc
    obtain ⟨⟨KA, kn, kc, hkv, hk5, _⟩, VA, vn, vc, hvv, _⟩ := Hpa.out x hm
    obtain ⟨xk, xv, xkv, xvv⟩ := x
    simp only at hkv hvv hk5
    subst hkv hvv
    have e0 : C wr b (o + k * 3) (.int .i64 0) := hc 0 (by omega)
    have e1 : C wr b (o + k * 3 + 1) (.slice KA kn kc) := hc 1 (by omega)
    have e2 : C wr b (o + k * 3 + 2) (.slice VA vn vc) := hc 2 (by omega)
    have hal := (Below.refl wr.heap.size wr).alloc (Nat.le_refl _) (.cells #[.int .i64 0, .slice KA kn kc, .slice VA vn vc] 132)
    have n1 := C.new wr #[.int .i64 0, .slice KA kn kc, .slice VA vn vc] 132 1 (v := .slice KA kn kc) rfl
    have hcv := conv_str ((hk5.below HB.out).below hal).1 kc
    have hO1 := own_below HO.out hal
    have hB1 := below_chain HB.out hal
    have hz : w1.heap.size ≤ (wr.alloc (.cells #[.int .i64 0, .slice KA kn kc, .slice VA vn vc] 132)).heap.size := hB1.size
    have htk : strs (ns.take (k + 1)) = strs (ns.take k) ++ [.string (strB xk)] := by
      have hl2 : k < ns.length := by rw [Hnsl.out]; simpa using hkl
      rw [List.take_succ_eq_append_getElem hl2]
      have : ns[k] = strB xk := by simp only [Hnsl.out, List.getElem_map, hx]
      simp [strs, this]
    have HO1 := hide hO1
    have HB1 := hide hB1
    have Htk := hide htk
    clear hc hx hm hk5 hal hO1 hB1 htk HO HB
    go_wp2_with (first
      | (at_builtin; refine wp_lit strT rfl rfl HO1.out rfl rfl (by simp) (by rfl) (by simp [Value.oneCell']) (by omega) (by omega) hz ?_; intro A5 c5 w5 hown5 hb5 hg5)
      | fail)
    exact ⟨⟨k + 1, A5, c5, hlt, by go_num, rfl, hide (by rw [Htk.out]; exact hown5), hide (HB1.out.trans hb5)⟩, by simp [intOf]; omega⟩
theorem get_ext {a b : List UInt8} (hl : a.length = b.length) (h : ∀ j, (hj : j < a.length) → a[j] = b[j]'(by omega)) : a = b := List.ext_getElem hl fun j h1 h2 => h j h1
set_option maxHeartbeats 800000 in
set_option maxRecDepth 100000 in
theorem beq119 (A B : Option Addr) (n c m d : Nat) (xs ys : List UInt8) (w : World) (hx : RB w A n xs) (hy : RB w B m ys) (hn : n ≤ 100000000) :
    Calls Tryz.prog 119 #[.slice A n c, .slice B m d] w fun e w' => e = .returned (.bool (decide (xs = ys))) ∧ Below w.heap.size w w' := by
  have hlx := hx.len
  have hly := hy.len
  by_cases hnm : n = m
  rotate_left
  · have t1 : ((n : Int) != (m : Int)) = true := by simp; omega
    have hr : decide (xs = ys) = false := by
      simp only [decide_eq_false_iff_not]
      intro e
      subst e
      omega
    rw [hr]
    clear hr hx hy
    go_enter Tryz.func119, Tryz.ntmps119
    go_wp2
    go_ret
    exact ⟨rfl, Below.refl _ _⟩
  subst hnm
  obtain ⟨R, hR⟩ : ∃ R, decide (xs = ys) = R := ⟨_, rfl⟩
  rw [hR]
  have HR := hide hR
  have HX := hide hx
  have HY := hide hy
  have HLX := hide hlx
  have HLY := hide hly
  clear hR hx hy hlx hly
  go_enter Tryz.func119, Tryz.ntmps119
  go_wp2_with fail
  go_loopw [13] (fun i wr => ∃ k : Nat, k ≤ n ∧ i = .int .i64 k ∧ Hid (∀ j (h1 : j < xs.length) (h2 : j < ys.length), j < k → xs[j] = ys[j]) ∧ Hid (Below w.heap.size w wr)) (fun i _ => n - (intOf i).toNat)
  case atStart => exact ⟨0, Nat.zero_le _, rfl, hide (fun j _ _ h => by omega), hide (Below.refl _ _)⟩
  case round =>
    obtain ⟨k, hk, rfl, HE, HB⟩ := hrel
    by_cases hlt : k < n
    rotate_left
    · have hke : n = k := by omega
      subst hke
      have hr : R = true := by
        rw [← HR.out]
        simp only [decide_eq_true_eq]
        have h1 := HLX.out
        have h2 := HLY.out
        exact get_ext (by omega) fun j hj => HE.out j hj (by omega) (by omega)
      go_wp2
      go_ret
      exact ⟨ret_bool hr.symm, HB.out⟩
    obtain ⟨b, o, rfl, hc⟩ := RB.at_ (HX.out.below HB.out) k hlt
    obtain ⟨b', o', rfl, hc'⟩ := RB.at_ (HY.out.below HB.out) k hlt
    have h1 : k < xs.length := by have := HLX.out; omega
    have h2 : k < ys.length := by have := HLY.out; omega
    obtain ⟨x, hx⟩ : ∃ x, xs[k] = x := ⟨_, rfl⟩
    obtain ⟨y, hy⟩ : ∃ y, ys[k] = y := ⟨_, rfl⟩
    rw [hx] at hc
    rw [hy] at hc'
    have hki : (k : Int) < (n : Int) := by omega
    by_cases hxy : x = y
    · have t1 : ((x.toNat : Int) != (y.toNat : Int)) = false := by rw [hxy]; simp
      have HE2 : Hid (∀ j (h1 : j < xs.length) (h2 : j < ys.length), j < k + 1 → xs[j] = ys[j]) := hide fun j h1 h2 h3 => by
        rcases Nat.lt_or_eq_of_le (Nat.le_of_lt_succ h3) with h4 | h4
        · exact HE.out j h1 h2 h4
        subst h4; rw [hx, hy, hxy]
      clear hx hy hxy HE
      go_wp2_with fail
      go_quiet (fail)
      go_wp2
      go_roundw
      case rel => exact ⟨k + 1, hlt, by go_num, HE2, hide (below_drewN HB.out nq)⟩
      case measure => simp [intOf]; omega
    have hne : x.toNat ≠ y.toNat := fun e => hxy (UInt8.toNat_inj.1 e)
    have t1 : ((x.toNat : Int) != (y.toNat : Int)) = true := by simp; omega
    have hr : R = false := by
      rw [← HR.out]
      simp only [decide_eq_false_iff_not]
      intro e
      subst e
      exact hxy (hx.symm.trans hy)
    clear hx hy
    go_wp2_with fail
    go_quiet (fail)
    go_wp2
    go_ret
    exact ⟨ret_bool hr.symm, below_drewN HB.out nq⟩
theorem pre_of_inB : ∀ (p k : List UInt8), ¬ cmpB k p < 0 → cmpB k (p ++ [255]) < 0 → ∃ t, k = p ++ t
  | [], k, _, _ => ⟨k, rfl⟩
  | x :: p, [], h, _ => absurd (by simp [cmpB]) h
  | x :: p, y :: k, h1, h2 => by
    simp only [List.cons_append, cmpB] at h1 h2
    rcases u8_tri y x with h | h | h
    · simp [h] at h1
    · subst h
      simp only [UInt8.lt_irrefl, if_false] at h1 h2
      obtain ⟨t, rfl⟩ := pre_of_inB p k h1 h2
      exact ⟨t, rfl⟩
    simp [h, u8_asymm h] at h2
def loK (id : Nat) (x : Ix) (r : List V) : List UInt8 := UInt8.ofNat id :: UInt8.ofNat x.col.toNat :: keyV (col r x.col.toNat)
theorem entK_lo (id : Nat) (x : Ix) (r : List V) : entK id x r = loK id x r ++ keyV (col r 0) := rfl
theorem inB_pre {p t : List UInt8} {b : UInt8} (hb : b.toNat < 255) : inB p (p ++ [255]) (p ++ b :: t) := by
  refine ⟨?_, .inr ?_⟩
  · have := cmpB_pre p (b :: t)
    have h2 := cmpB_swap p (p ++ b :: t)
    omega
  rw [cmpB_append]
  have : b < 255 := UInt8.lt_iff_toNat_lt.2 (by simpa using hb)
  simp [cmpB, this]
section
variable {L : List Chg} {D : List Tb} {i : Nat} {T : Tb} {row : List V} {x : Ix}
theorem hurt_iff (h : Rep L D) (ho : Ok D) (hT : D[i]? = some T) (hx : x ∈ T.s.ixs) (hrow : RowOf T.s row) :
    (∃ k v, getC L 2 k = some v ∧ inB (loK i x row) (loK i x row ++ [255]) k ∧ k ≠ entK i x row) ↔ ∃ r ∈ T.rows, col r 0 ≠ col row 0 ∧ col r x.col.toNat = col row x.col.toNat := by
  have hi := ho.lt4 hT
  have hs := ho.right i T hT
  have hxf := ixs_facts hs x hx
  have hrv := fun k => (hrow.col hs k).1
  constructor
  · rintro ⟨k, v, hg, hb, hne⟩
    obtain ⟨j, U, hU, r, hr, y, hy, rfl, _⟩ := (h.e k v).1 hg
    have hj := ho.lt4 hU
    have hyf := ixs_facts (ho.right j U hU) y hy
    have hk2 : cmpB (entK j y r) (loK i x row ++ [255]) < 0 := by
      rcases hb.2 with h1 | h1
      · simp [loK] at h1
      exact h1
    obtain ⟨t, ht⟩ := pre_of_inB _ _ hb.1 hk2
    rw [entK, loK] at ht
    injection ht with h1 ht
    injection ht with h2 ht
    have e1 := u8_id (by omega) (by omega) h1
    have e2 := u8_id (by omega) (by omega) h2
    subst e1
    rw [hT] at hU
    obtain rfl := Option.some.inj hU
    have e3 := keyV_free (ho.val hT hr _) (hrv _) ht
    rw [e2] at e3
    refine ⟨r, hr, fun e => hne ?_, e3.1⟩
    rw [entK, entK, e2, e3.1, e]
  rintro ⟨r, hr, hne, he⟩
  refine ⟨entK i x r, [], (h.e _ _).2 ⟨i, T, hT, r, hr, x, hx, rfl, rfl⟩, ?_, fun e => ?_⟩
  · obtain ⟨b, t, hk, hb1, hb4⟩ := keyV_bounds (col r 0) (ho.val hT hr 0).1
    have : entK i x r = loK i x row ++ b :: t := by rw [entK_lo, loK, loK, he, hk]
    rw [this]
    exact inB_pre (by omega)
  have := entK_inj (by omega) (by omega) hxf hxf (ho.val hT hr) hrv e
  exact hne this.2.2.2
end
end Go.Proofs.YtekokogmnhlchaaGreatDoor
