import Derived.Test.YtekokogmnhlchaaGreatDoorB4
import Derived.Test.YtekokogmnhlchaaGreatDoorB2
import Derived.Test.YtekokogmnhlchaaGreatDoorB3
import Derived.Test.YtekokogmnhlchaaGreatDoorB1
import Derived.Deep.DeepCutAuto
import Derived.Deep.Cut
set_option linter.unusedSimpArgs false
set_option linter.unusedVariables false
set_option linter.unusedSectionVars false
namespace Go.Proofs.YtekokogmnhlchaaGreatDoor
open Go.RowKit
theorem encode_bad (s : Sch) (sv : Value) (w : World) (h : SchV w s sv) (hs : s.small) (hr : rightS s = false) :
    Calls Tryz.prog 54 #[sv] w fun e w' => e = .returned (.tuple #[.slice none 0 0, .int .i64 61]) ∧ Below w.heap.size w w' := by
  have h' := h
  obtain ⟨CA, cc, XA, xc, rfl, k1, k2, k3, k4⟩ := h
  have hal := (Below.refl w.heap.size w).alloc (Nat.le_refl _) (.cells #[.string s.name, .slice CA s.cols.length cc, .slice XA s.ixs.length xc] 25)
  have hbl := Blk.new w #[.string s.name, .slice CA s.cols.length cc, .slice XA s.ixs.length xc] 25
  obtain ⟨W0, hW0⟩ : ∃ W0, w.alloc (.cells #[.string s.name, .slice CA s.cols.length cc, .slice XA s.ixs.length xc] 25) = W0 := ⟨_, rfl⟩
  rw [hW0] at hal hbl
  have hrt := rightS_any s _ W0 (h'.below hal) hs
  rw [hr] at hrt
  have Hrt := hide hrt
  have Hal := hide hal
  have p0 := hbl.c 0 (v := .string s.name) rfl
  have p1 := hbl.c 1 (v := .slice CA s.cols.length cc) rfl
  have p2 := hbl.c 2 (v := .slice XA s.ixs.length xc) rfl
  clear hrt hal hbl h' k1 k2 k3 k4 hr hs
  go_enter Tryz.func54, Tryz.ntmps54
  go_wp2_with fail
  refine Hrt.out.mono ?_
  rintro e w1 ⟨rfl, hb1⟩
  have Hb1 := hide (below_chain Hal.out hb1)
  clear hb1 Hrt p0 p1 p2 hW0
  rw [show (cond false 0 61 : Int) = 61 from rfl]
  go_wp2_with fail
  go_ret2
  exact ⟨rfl, Hb1.out⟩
set_option maxHeartbeats 3200000 in
set_option maxRecDepth 1000000 in
theorem cre_bad (B0 db sb : Nat) (L : List Chg) (D : List Tb) (s : Sch) (sv : Value) (w : World) (hd : DbAt B0 w db sb L D) (hL : L.length ≤ 50000) (hs : rightS s = false) (hsm : s.small) (hv : SchV w s sv) :
    Calls Tryz.prog 17 #[.pointer (some ⟨db, 0, none⟩), sv] w (OpPost B0 db sb w L (creX D s) (creE D s) (creD D s)) := by
  have hE : creE D s = 61 := by rw [creE, hs]; rfl
  have hD : creD D s = D := by rw [creD, hE]; rfl
  rw [hE, hD]
  have hv' := hv
  obtain ⟨CA, cc, XA, xc, rfl, k1, k2, k3, k4⟩ := hv
  have hal := (Below.refl w.heap.size w).alloc (Nat.le_refl _) (.cells #[.string s.name, .slice CA s.cols.length cc, .slice XA s.ixs.length xc] 25)
  have hbl := Blk.new w #[.string s.name, .slice CA s.cols.length cc, .slice XA s.ixs.length xc] 25
  obtain ⟨W0, hW0⟩ : ∃ W0, w.alloc (.cells #[.string s.name, .slice CA s.cols.length cc, .slice XA s.ixs.length xc] 25) = W0 := ⟨_, rfl⟩
  rw [hW0] at hal hbl
  have hnames := names_any B0 db sb L D W0 (hd.below hal) (by omega)
  have HD := hide hd
  have Hal := hide hal
  have Hbl := hide hbl
  have Hn := hide hnames
  have Hs := hide hs
  have Hsm := hide hsm
  have Hv := hide (hv'.below hal)
  obtain ⟨dn, hdn⟩ : ∃ dn, D.length = dn := ⟨_, rfl⟩
  have Hdn := hide hdn
  clear hd hE hD hal hbl hnames hs hsm hv' k3 k4 hdn
  go_enter Tryz.func17, Tryz.ntmps17
  go_wp2_with fail
  refine Hn.out.mono ?_
  rintro e w1 ⟨ns, A, c, hnl, rfl, hown, hb1⟩
  have q := Hbl.out.below hb1
  have q0 := q.c 0 (v := .string s.name) rfl
  have q1 := q.c 1 (v := .slice CA s.cols.length cc) rfl
  have q2 := q.c 2 (v := .slice XA s.ixs.length xc) rfl
  have henc := encode_bad s _ w1 (Hv.out.below hb1) Hsm.out Hs.out
  have hb := below_then Hal.out Hal.out.size hb1
  rw [Hdn.out]
  have Henc := hide henc
  have Hb := hide hb
  clear q henc hb1 hown hnl hb Hn hW0 Hv
  go_wp2_with fail
  refine Henc.out.mono ?_
  rintro e w3 ⟨rfl, hb3⟩
  have Hb3 := hide (below_then Hb.out Hb.out.size hb3)
  clear hb3 q0 q1 q2 Henc
  go_wp2_with fail
  go_ret
  exact OpPost.refused HD.out rfl Hb3.out
theorem cre_any (B0 db sb : Nat) (L : List Chg) (D : List Tb) (s : Sch) (sv : Value) (w : World) (hd : DbAt B0 w db sb L D) (hL : L.length ≤ 50000) (hsm : s.small) (hv : SchV w s sv) (hB0 : B0 ≤ w.heap.size) :
    Calls Tryz.prog 17 #[.pointer (some ⟨db, 0, none⟩), sv] w (OpPost B0 db sb w L (creX D s) (creE D s) (creD D s)) := by
  cases hs : rightS s with
  | true => exact cre_ok B0 db sb L D s sv w hd hL hs hv hB0
  | false => exact cre_bad B0 db sb L D s sv w hd hL hs hsm hv
theorem layUpd_len (id : Nat) (row old : List V) (l : List Ix) : (l.flatMap (layIx id (some row) (some old))).length = 2 * l.length := by
  induction l with
  | nil => rfl
  | cons x l ih => simp only [List.flatMap_cons, List.length_append, ih, List.length_cons]; simp [layIx]; omega
set_option maxHeartbeats 3200000 in
set_option maxRecDepth 1000000 in
theorem lay_upd (B0 db sb : Nat) (L : List Chg) (id : Nat) (s : Sch) (tv : Value) (A : Option Addr) (n c : Nat) (row : List V) (AO : Option Addr) (no co : Nat) (old : List V) (w : World) (hd : DraftAt B0 w db sb L) (hT : Tabs w) (ht : TabS B0 db id s w tv) (hid : id < 256) (hs : rightS s = true) (hrow : RdS B0 w 3 A n (rowCells row)) (hn : row.length = n) (hro : RowOf s row) (hold : RdS B0 w 3 AO no (rowCells old)) (hno : old.length = no) (hoo : RowOf s old) (hL : L.length ≤ 100000) (hB0 : B0 ≤ w.heap.size) (h3 : 3 ≤ B0) :
    Calls Tryz.prog 64 #[tv, .slice A n c, .slice AO no co] w (PutPost B0 db sb w (L ++ layC id s.ixs (col row 0) (some row) (some old))) := by
  have ht' := ht
  obtain ⟨CA, cc, XA, xcc, rfl, h1, h2, hCA, hXA⟩ := ht
  have hpos := hro.pos hs
  obtain ⟨b, o, rfl, _⟩ := hrow.rd.some_ (by omega)
  have hposo := hoo.pos hs
  obtain ⟨b2, o2, rfl, _⟩ := hold.rd.some_ (by omega)
  have hf := right_facts hs
  have hcl := fits_len hro.fit
  have hclo := fits_len hoo.fit
  obtain ⟨W0, hW0⟩ : ∃ W0, w.alloc (.cells #[.pointer (some ⟨db, 0, none⟩), .int .u8 (id : Nat), .string s.name, .slice CA s.cols.length cc, .slice XA s.ixs.length xcc] 113) = W0 := ⟨_, rfl⟩
  have hbl := Blk.new w #[.pointer (some ⟨db, 0, none⟩), .int .u8 (id : Nat), .string s.name, .slice CA s.cols.length cc, .slice XA s.ixs.length xcc] 113
  have hb1 := (Below.refl w.heap.size w).alloc (Nat.le_refl _) (.cells #[.pointer (some ⟨db, 0, none⟩), .int .u8 (id : Nat), .string s.name, .slice CA s.cols.length cc, .slice XA s.ixs.length xcc] 113)
  rw [hW0] at hbl hb1
  have hd0 := hd.below hb1
  have hsaf := hbl.safe (by decide) (by decide) B0
  have p0 := hbl.c 0 (v := .pointer (some ⟨db, 0, none⟩)) rfl
  have p1 := hbl.c 1 (v := .int .u8 (id : Nat)) rfl
  have p2 := hbl.c 2 (v := .string s.name) rfl
  have p3 := hbl.c 3 (v := .slice CA s.cols.length cc) rfl
  have p4 := hbl.c 4 (v := .slice XA s.ixs.length xcc) rfl
  obtain ⟨xn, hxn⟩ : ∃ xn, s.ixs.length = xn := ⟨_, rfl⟩
  -- what holds in every later world
  have HK : Hid (∀ W, Upd db W0 W → C W w.heap.size 0 (.pointer (some ⟨db, 0, none⟩)) ∧ C W w.heap.size 1 (.int .u8 (id : Nat)) ∧ C W w.heap.size 2 (.string s.name) ∧ C W w.heap.size 3 (.slice CA s.cols.length cc) ∧ C W w.heap.size 4 (.slice XA s.ixs.length xcc) ∧ Rd W 2 XA s.ixs.length (s.ixs.flatMap Ix.cells) ∧ RdS B0 W 3 (some ⟨b, o, none⟩) n (rowCells row) ∧ RdS B0 W 3 (some ⟨b2, o2, none⟩) no (rowCells old) ∧ TabS B0 db id s W (.agg #[.pointer (some ⟨db, 0, none⟩), .int .u8 (id : Nat), .string s.name, .slice CA s.cols.length cc, .slice XA s.ixs.length xcc]) ∧ Tabs W ∧ B0 ≤ W.heap.size) := hide fun W hu =>
    ⟨p0.upd hsaf hd0 hu, p1.upd hsaf hd0 hu, p2.upd hsaf hd0 hu, p3.upd hsaf hd0 hu, p4.upd hsaf hd0 hu, ((hXA.below hb1).upd hd0 hu).rd, (hrow.below hb1).upd hd0 hu, (hold.below hb1).upd hd0 hu, (ht'.below hb1).upd hd0 hu, tabs_upd (hT.below hb1) hd0 hu h3, Nat.le_trans (Nat.le_trans hB0 hb1.size) hu.size⟩
  have Hd0 := hide hd0
  have Hb1 := hide hb1
  have HL := hide hL
  have Hlt0 := hide hd.lt
  have Hro := hide hro
  have Hoo := hide hoo
  have Hs := hide hs
  have Hf := hide hf
  have hdlt : db < W0.heap.size := hd0.lt
  have hwlt : w.heap.size < W0.heap.size := hbl.lt
  rw [hxn] at p4 hXA
  have Hxn := hide hxn
  have hx3 : xn ≤ 3 := by have := hf.x3; omega
  clear hd hT ht' hrow hold hCA hXA hbl hb1 hd0 hsaf hL hro hoo hs hf p0 p1 p2 p3 hxn h1 h2
  have hnq2 := neqSome ⟨b2, o2, none⟩ no co
  have hnq1 := neqSome ⟨b, o, none⟩ n c
  have heq1 := eqlSome ⟨b, o, none⟩ n c
  go_enter Tryz.func64, Tryz.ntmps64
  go_wp2_with fail
  clear hW0
  go_loopw [17] (fun i wr => ∃ k : Nat, k ≤ xn ∧ i = .int .i64 k ∧ Hid (DraftAt B0 wr db sb (L ++ (s.ixs.take k).flatMap (layIx id (some row) (some old)))) ∧ Hid (Upd db W0 wr)) (fun i _ => xn - (intOf i).toNat)
  case atStart => exact ⟨0, Nat.zero_le _, rfl, by simpa using Hd0, hide (Upd.refl _ _)⟩
  case round =>
    clear p4
    obtain ⟨k, hk, rfl, HD, HU⟩ := hrel
    obtain ⟨q0, q1, q2, q3, q4, hix, hrw, hro', htb, htt, hB0r⟩ := HK.out wr HU.out
    by_cases hlt : k < xn
    rotate_left
    · have hke : xn = k := by omega
      subst hke
      have hall : s.ixs.take xn = s.ixs := List.take_of_length_le (by have := Hxn.out; omega)
      have hD := HD.out
      rw [hall] at hD
      have hro3 := Hro.out.row Hs.out
      have hrv := Hro.out.ok Hs.out
      have henc := encrow_ok (some ⟨b, o, none⟩) n c row hn hro3 wr hrw.rd htt
      obtain ⟨el, hel⟩ : ∃ el, (keyL row).length = el := ⟨_, rfl⟩
      have hel1 : el ≤ 1800 := by
        rw [← hel]
        have h5 := flat_le' row (fun v hv => keyV_len (fits_val Hs.out Hro.out.fit v hv).1 (fits_val Hs.out Hro.out.fit v hv).2)
        have := hro3.1
        rw [keyL]
        omega
      rw [hel] at henc
      have hp0 : 0 < row.length := by omega
      have ec0 : col row 0 = row[0] := by rw [col, List.getD_eq_getElem?_getD, List.getElem?_eq_getElem hp0]; rfl
      obtain ⟨v0, hv0⟩ : ∃ v0, col row 0 = v0 := ⟨_, rfl⟩
      have hv0k := hrv _ (List.getElem_mem hp0)
      have hv0l := ((Hro.out.col Hs.out 0).2)
      rw [← ec0, hv0] at hv0k
      rw [hv0] at hv0l
      obtain ⟨b', o', he, z0, z1, z2⟩ := Row.cells (A := some ⟨b, o, none⟩) (l := row) (by rw [hn]; exact hrw.rd) 0 hp0
      injection he with he
      injection he with he1 he2 _
      subst he1 he2
      rw [← ec0, hv0, Nat.zero_mul, Nat.add_zero] at z0 z1 z2
      have Henc := hide henc
      have HD3 := hide hD
      have Hhr := hide htb
      have Htt := hide htt
      have hwrU := hide HU.out
      have hLl : (L ++ s.ixs.flatMap (layIx id (some row) (some old))).length ≤ 1000000 := by rw [List.length_append, layUpd_len]; have := HL.out; have := Hxn.out; omega
      have hdlr : db < wr.heap.size := hD.lt
      obtain ⟨vl, hvl⟩ : ∃ vl, (keyV v0).length = vl := ⟨_, rfl⟩
      clear hall hD hro3 hrv henc ec0 htb htt hix HD HU
      go_wp2_with fail
      refine Henc.out.mono ?_
      rintro e w1 ⟨A1, c1, rfl, hown1, hb1⟩
      have r0 := q0.below hb1
      have r1 := q1.below hb1
      have r2 := q2.below hb1
      have r3 := q3.below hb1
      have r4 := q4.below hb1
      have y0 := z0.below hb1
      have y1 := z1.below hb1
      have y2 := z2.below hb1
      have hrow : Calls Tryz.prog 116 #[.agg #[.pointer (some ⟨db, 0, none⟩), .int .u8 (id : Nat), .string s.name, .slice CA s.cols.length cc, .slice XA s.ixs.length xcc], .agg #[.int .i64 v0.k, .int .i64 v0.n, .string v0.s]] w1.drew _ := row_any db id s _ v0 hv0k (by omega) w1.drew ((Htt.out.below hb1).below ((Below.refl _ _).drew)) ((Hhr.out.v.below hb1).below ((Below.refl _ _).drew)) hid
      rw [hvl] at hrow hv0l
      have Hrow := hide hrow
      have HDW := hide (HD3.out.below hb1)
      have Hbk := hide (Rd.of_own hown1)
      have hBW : B0 ≤ w1.heap.size := Nat.le_trans hB0r hb1.size
      have HUW := hide (hwrU.out.trans (Upd.of_below hb1 hdlr))
      have HP : Hid (∀ W1 A2 c2, Below w1.heap.size w1 W1 → RB W1 A2 (1 + vl) (rowK id v0) → Calls Tryz.prog 56 #[.pointer (some ⟨db, 0, none⟩), .int .i64 1, .slice A2 (1 + vl) c2, .slice A1 el c1] W1 (PutPost B0 db sb W1 ((L ++ s.ixs.flatMap (layIx id (some row) (some old))) ++ [⟨1, rowK id v0, keyL row, false⟩]))) := hide fun W1 A2 c2 hb hr =>
        dput_any B0 db sb _ 1 A2 A1 (1 + vl) c2 el c1 _ (keyL row) W1 (HDW.out.below hb) hr (Hbk.out.below hb) (by omega) (by omega) (by omega) (by omega) hel1 hLl (Nat.le_trans hBW hb.size)
      have hdlW : db < w1.heap.size := HDW.out.lt
      have Hv0 := hide hv0
      have hn0 : 0 < n := by omega
      clear hown1 hb1 hrow Henc Hhr Htt hwrU q0 q1 q2 q3 q4 z0 z1 z2 hrw hv0 HD3 hvl hv0k
      go_wp2_with fail
      go_region_law
        ((first
          | (refine step_call (f := 116) (vs := [.agg #[.pointer (some ⟨db, 0, none⟩), .int .u8 (id : Nat), .string s.name, .slice CA s.cols.length cc, .slice XA s.ixs.length xcc], .agg #[.int .i64 v0.k, .int .i64 v0.n, .string v0.s]]) (R := fun e w' => ∃ A' c', e = .returned (.slice A' (1 + vl) c') ∧ w'.ownsRow w1.drew.heap.size 5 1 (.slice A' (1 + vl) c') (1 + vl) (bys (rowK id v0)) ∧ Below w1.drew.heap.size w1.drew w') (by rfl) (by rfl) ?_ (by simp [go_sem]) ?_ ?_; rfl; exact Hrow.out; rintro e w2 ⟨A2, c2, rfl, hown2, hb2⟩; refine ⟨_, rfl, ?_⟩; have hb2 := undrewd hb2; have r0' := r0.below hb2)
          | (refine step_call (f := 56) (vs := [.pointer (some ⟨db, 0, none⟩), .int .i64 1, .slice A2 (1 + vl) c2, .slice A1 el c1]) (R := PutPost B0 db sb w2 ((L ++ s.ixs.flatMap (layIx id (some row) (some old))) ++ [⟨1, rowK id v0, keyL row, false⟩])) (by rfl) (by rfl) ?_ (by simp [go_sem]) ?_ ?_; rfl; exact HP.out w2 A2 c2 hb2 (Rd.of_own hown2); rintro e w3 ⟨rfl, hd3, hu3⟩; refine ⟨_, rfl, ?_⟩)
          | fail))
      all_goals
        have HD2 := hide hd3
        have HU2 := hide ((HUW.out.trans (Upd.of_below hb2 hdlW)).trans hu3)
        clear hd3 hu3 hb2 hown2 r0' HP Hrow r0 r1 r2 r3 r4 y0 y1 y2
        go_simp
        go_wp2_with fail
        go_ret
        refine ⟨rfl, ?_, (Upd.of_below Hb1.out Hlt0.out).trans HU2.out⟩
        rw [layC, Hv0.out, ← List.append_assoc]
        exact HD2.out
    have hkl : k < s.ixs.length := by have := Hxn.out; omega
    obtain ⟨bx, ox, rfl, hc⟩ := Rd.struct Ix.cells_len s.ixs rfl hix k hkl
    obtain ⟨x, hx⟩ : ∃ x, s.ixs[k] = x := ⟨_, rfl⟩
    have hm : x ∈ s.ixs := by rw [← hx]; exact List.getElem_mem _
    have hxf := Hf.out.xs x hm
    have hxc3 := Hf.out.c3
    have htk : (s.ixs.take (k + 1)).flatMap (layIx id (some row) (some old)) = (s.ixs.take k).flatMap (layIx id (some row) (some old)) ++ [⟨2, entK id x old, [], true⟩, ⟨2, entK id x row, [], false⟩] := by
      rw [List.take_succ_eq_append_getElem hkl, hx]; simp [layIx]
    have htl : ((s.ixs.take k).flatMap (layIx id (some row) (some old))).length ≤ 6 := by
      rw [layUpd_len]; simp; omega
    rw [hx] at hc
    obtain ⟨xc', xu⟩ := x
    simp only at hxf
    obtain ⟨xc, rfl⟩ := Int.eq_ofNat_of_zero_le (show 0 ≤ xc' by omega)
    have e0 : C wr bx (ox + k * 2) (.int .i64 (xc : Nat)) := hc 0 (by omega)
    have e1 : C wr bx (ox + k * 2 + 1) (.bool xu) := hc 1 (by omega)
    have hki : (k : Int) < (xn : Int) := by omega
    have hal := (Below.refl wr.heap.size wr).alloc (Nat.le_refl _) (.cells #[.int .i64 (xc : Nat), .bool xu] 68)
    have n0 := C.new wr #[.int .i64 (xc : Nat), .bool xu] 68 0 (v := .int .i64 (xc : Nat)) rfl
    have n1 := C.new wr #[.int .i64 (xc : Nat), .bool xu] 68 1 (v := .bool xu) rfl
    have r0 := q0.below hal
    have r1 := q1.below hal
    have r2 := q2.below hal
    have r3 := q3.below hal
    have r4 := q4.below hal
    obtain ⟨W, hW⟩ : ∃ W, wr.alloc (.cells #[.int .i64 (xc : Nat), .bool xu] 68) = W := ⟨_, rfl⟩
    rw [hW] at hal n0 n1 r0 r1 r2 r3 r4
    have hrv := Hro.out.ok Hs.out
    have hov := Hoo.out.ok Hs.out
    have hento := entry_any db id s _ xc xu (some ⟨b2, o2, none⟩) no co old W.drew ((htt.below hal).below ((Below.refl _ _).drew)) ((htb.v.below hal).below ((Below.refl _ _).drew)) hid ((hro'.rd.below hal).drew) hno (by omega) (by omega) hov (fun v hv => by have := keyV_len (fits_val Hs.out Hoo.out.fit v hv).1 (fits_val Hs.out Hoo.out.fit v hv).2; omega)
    obtain ⟨ol, hol'⟩ : ∃ ol, (entK id ⟨(xc : Nat), xu⟩ old).length = ol := ⟨_, rfl⟩
    have hol60 : ol ≤ 60 := by
      have h1 := (Hoo.out.col Hs.out xc).2
      have h2 := (Hoo.out.col Hs.out 0).2
      rw [← hol']; simp only [entK, List.length_cons, List.length_append, Int.toNat_natCast]; omega
    have holp : 0 < ol := by rw [← hol']; simp [entK]
    rw [hol'] at hento
    obtain ⟨kl, hkl'⟩ : ∃ kl, (entK id ⟨(xc : Nat), xu⟩ row).length = kl := ⟨_, rfl⟩
    have hkl60 : kl ≤ 60 := by
      have h1 := (Hro.out.col Hs.out xc).2
      have h2 := (Hro.out.col Hs.out 0).2
      rw [← hkl']; simp only [entK, List.length_cons, List.length_append, Int.toNat_natCast]; omega
    have hklp : 0 < kl := by rw [← hkl']; simp [entK]
    have Hkl := hide hkl'
    have Hento := hide hento
    have HDW := hide (HD.out.below hal)
    have HUW := hide (HU.out.trans (Upd.of_below hal (Nat.lt_of_lt_of_le hdlt HU.out.size)))
    have hBW : B0 ≤ W.heap.size := Nat.le_trans hB0r hal.size
    have Htk := hide htk
    have Hal := hide hal
    have Hbx := hide (hW ▸ Blk.new wr #[.int .i64 (xc : Nat), .bool xu] 68 : Blk W wr.heap.size #[.int .i64 (xc : Nat), .bool xu] 68)
    have HP : Hid (∀ W1 A1 c1, Below W.heap.size W W1 → RB W1 A1 ol (entK id ⟨(xc : Nat), xu⟩ old) → Calls Tryz.prog 120 #[.pointer (some ⟨db, 0, none⟩), .int .i64 2, .slice A1 ol c1] W1 (PutPost B0 db sb W1 ((L ++ (s.ixs.take k).flatMap (layIx id (some row) (some old))) ++ [⟨2, entK id ⟨(xc : Nat), xu⟩ old, [], true⟩]))) := hide fun W1 A1 c1 hb hr =>
      ddel_any B0 db sb _ 2 A1 ol c1 _ W1 (HDW.out.below hb) hr (by omega) (by omega) holp hol60 (by rw [List.length_append]; have := HL.out; omega) (Nat.le_trans hBW hb.size)
    have hdlW : db < W.heap.size := HDW.out.lt
    have Htl := hide htl
    clear hc hx hm hix hal hento hrv hov htk htl htb htt hrw hro' q0 q1 q2 q3 q4 HD HU hB0r hkl' hol'
    go_upto_region 5 with (fail)
    clear hW
    go_cut [9] (fun e9 wx => e9 = .int .i64 0 ∧ Hid (DraftAt B0 wx db sb ((L ++ (s.ixs.take k).flatMap (layIx id (some row) (some old))) ++ [⟨2, entK id ⟨(xc : Nat), xu⟩ old, [], true⟩])) ∧ Hid (Upd db W wx))
    case first =>
      go_region_law
        ((first
          | (refine step_call (f := 118) (vs := [.agg #[.pointer (some ⟨db, 0, none⟩), .int .u8 (id : Nat), .string s.name, .slice CA s.cols.length cc, .slice (some ⟨bx, ox, none⟩) s.ixs.length xcc], .agg #[.int .i64 (xc : Nat), .bool xu], .slice (some ⟨b2, o2, none⟩) no co]) (R := fun e w' => ∃ A' c', e = .returned (.slice A' ol c') ∧ w'.ownsRow W.drew.heap.size 5 1 (.slice A' ol c') ol (bys (entK id ⟨(xc : Nat), xu⟩ old)) ∧ Below W.drew.heap.size W.drew w') (by rfl) (by rfl) ?_ (by simp [go_sem]) ?_ ?_; rfl; exact Hento.out; rintro e w1 ⟨A1, c1, rfl, hown1, hb1⟩; refine ⟨_, rfl, ?_⟩; have hb1 := undrewd hb1; have r0' := r0.below hb1)
          | (refine step_call (f := 120) (vs := [.pointer (some ⟨db, 0, none⟩), .int .i64 2, .slice A1 ol c1]) (R := PutPost B0 db sb w1 ((L ++ (s.ixs.take k).flatMap (layIx id (some row) (some old))) ++ [⟨2, entK id ⟨(xc : Nat), xu⟩ old, [], true⟩])) (by rfl) (by rfl) ?_ (by simp [go_sem]) ?_ ?_; rfl; exact HP.out w1 A1 c1 hb1 (Rd.of_own hown1); rintro e w2 ⟨rfl, hd2, hu2⟩; refine ⟨_, rfl, ?_⟩)
          | fail))
      all_goals
        have HD2 := hide hd2
        have HU2 := hide ((Upd.of_below hb1 hdlW).trans hu2)
        clear hd2 hu2 hb1 hown1 r0' HP Hento r0 r1 r2 r3 r4 n0 n1
        go_simp
        try go_wp2_with fail
        go_meet
        exact ⟨rfl, HD2, HU2⟩
    case rest =>
      obtain ⟨rfl, HDc, HUc⟩ := hcut
      have hUt := HUW.out.trans HUc.out
      obtain ⟨q0, q1, q2, q3, q4, hix, hrw, hro', htb, htt, hB0r⟩ := HK.out wc hUt
      have hbx := (HUc.out.same wr.heap.size Hbx.out.lt (HDW.out.safe (Hbx.out.safe (by decide) (by decide) B0))).trans Hbx.out
      have hbx' : Blk wc wr.heap.size #[.int .i64 (xc : Nat), .bool xu] 68 := hbx
      clear n0 n1 r0 r1 r2 r3 r4
      have n0 := hbx'.c 0 (v := .int .i64 (xc : Nat)) rfl
      have n1 := hbx'.c 1 (v := .bool xu) rfl
      have hrv := Hro.out.ok Hs.out
      have hent := entry_any db id s _ xc xu (some ⟨b, o, none⟩) n c row wc.drew (htt.below ((Below.refl _ _).drew)) (htb.v.below ((Below.refl _ _).drew)) hid (hrw.rd.drew) hn (by omega) (by omega) hrv (fun v hv => by have := keyV_len (fits_val Hs.out Hro.out.fit v hv).1 (fits_val Hs.out Hro.out.fit v hv).2; omega)
      rw [Hkl.out] at hent
      have Hent := hide hent
      have hBc : B0 ≤ wc.heap.size := hB0r
      have hLk : ((L ++ (s.ixs.take k).flatMap (layIx id (some row) (some old))) ++ [(⟨2, entK id ⟨(xc : Nat), xu⟩ old, [], true⟩ : Chg)]).length ≤ 1000000 := by
        rw [List.length_append, List.length_append]; have := HL.out; have := Htl.out; simp only [List.length_singleton]; omega
      have HLk := hide hLk
      have HP2 : Hid (∀ W1 A1 c1, Below wc.heap.size wc W1 → RB W1 A1 kl (entK id ⟨(xc : Nat), xu⟩ row) → Calls Tryz.prog 56 #[.pointer (some ⟨db, 0, none⟩), .int .i64 2, .slice A1 kl c1, .slice none 0 0] W1 (PutPost B0 db sb W1 (((L ++ (s.ixs.take k).flatMap (layIx id (some row) (some old))) ++ [⟨2, entK id ⟨(xc : Nat), xu⟩ old, [], true⟩]) ++ [⟨2, entK id ⟨(xc : Nat), xu⟩ row, [], false⟩]))) := hide fun W1 A1 c1 hb hr =>
        dput_any B0 db sb _ 2 A1 none kl c1 0 0 _ [] W1 (HDc.out.below hb) hr (Rd.nil _ _ _) (by omega) (by omega) hklp hkl60 (by omega) HLk.out (Nat.le_trans hBc hb.size)
      have hdlc : db < wc.heap.size := HDc.out.lt
      have HUt := hide hUt
      clear hent hrv htb htt hrw hro' hix hB0r hbx hbx' hUt HP Hento hLk q2 q3
      clear q1
      obtain ⟨q0, q1, q2, q3, q4, _⟩ := HK.out wc HUt.out
      go_upto_region 9 with (fail)
      go_region_law
        ((first
          | (refine step_call (f := 118) (vs := [.agg #[.pointer (some ⟨db, 0, none⟩), .int .u8 (id : Nat), .string s.name, .slice CA s.cols.length cc, .slice (some ⟨bx, ox, none⟩) s.ixs.length xcc], .agg #[.int .i64 (xc : Nat), .bool xu], .slice (some ⟨b, o, none⟩) n c]) (R := fun e w' => ∃ A' c', e = .returned (.slice A' kl c') ∧ w'.ownsRow wc.drew.heap.size 5 1 (.slice A' kl c') kl (bys (entK id ⟨(xc : Nat), xu⟩ row)) ∧ Below wc.drew.heap.size wc.drew w') (by rfl) (by rfl) ?_ (by simp [go_sem]) ?_ ?_; rfl; exact Hent.out; rintro e w1 ⟨A1, c1, rfl, hown1, hb1⟩; refine ⟨_, rfl, ?_⟩; have hb1 := undrewd hb1; have r0' := q0.below hb1)
          | (refine step_call (f := 56) (vs := [.pointer (some ⟨db, 0, none⟩), .int .i64 2, .slice A1 kl c1, .slice none 0 0]) (R := PutPost B0 db sb w1 (((L ++ (s.ixs.take k).flatMap (layIx id (some row) (some old))) ++ [⟨2, entK id ⟨(xc : Nat), xu⟩ old, [], true⟩]) ++ [⟨2, entK id ⟨(xc : Nat), xu⟩ row, [], false⟩])) (by rfl) (by rfl) ?_ (by simp [go_sem]) ?_ ?_; rfl; exact HP2.out w1 A1 c1 hb1 (Rd.of_own hown1); rintro e w2 ⟨rfl, hd2, hu2⟩; refine ⟨_, rfl, ?_⟩)
          | fail))
      all_goals
        have HD2 := hide hd2
        have HU2 := hide ((HUt.out.trans (Upd.of_below hb1 hdlc)).trans hu2)
        clear hd2 hu2 hb1 hown1 r0' HP2 Hent q0 q1 q2 q3 q4 n0 n1
        go_simp
        go_wp2_with fail
        exact ⟨⟨k + 1, hlt, by go_num, hide (by rw [Htk.out]; have := HD2.out; simpa using this), HU2⟩, by simp [intOf]; omega⟩
set_option maxHeartbeats 3200000 in
set_option maxRecDepth 1000000 in
theorem upd_any (B0 db sb : Nat) (L : List Chg) (D : List Tb) (nm : ByteArray) (A : Option Addr) (n c : Nat) (row : List V) (w : World) (hd : DbAt B0 w db sb L D) (hL : L.length ≤ 50000) (hnm : nm.size ≤ 9223372036854775807) (hrow : RdS B0 w 3 A n (rowCells row)) (hn : row.length = n) (hwf : ∀ v ∈ row, wf64 v.n) (hrs : ∀ v ∈ row, v.s.size ≤ 9223372036854775807) (hB0 : B0 ≤ w.heap.size) :
    Calls Tryz.prog 29 #[.pointer (some ⟨db, 0, none⟩), .string nm, .slice A n c] w (OpPost B0 db sb w L (updX D nm row) (updE D nm row) (updD D nm row)) := by
  obtain ⟨E, hE⟩ : ∃ E, updE D nm row = E := ⟨_, rfl⟩
  obtain ⟨D', hD'⟩ : ∃ D', updD D nm row = D' := ⟨_, rfl⟩
  obtain ⟨X, hX⟩ : ∃ X, updX D nm row = X := ⟨_, rfl⟩
  rw [hE, hD', hX]
  have HD := hide hd
  cases hf : findT D nm 0 with
  | none =>
    have h60 : E = 60 := by rw [← hE, updE, hf]
    have hDD : D' = D := by rw [← hD', updD, hE, h60]; rfl
    subst h60 hDD
    have hfn := find_none_ B0 db sb L D' nm w hd hnm hf
    have Hfn := hide hfn
    clear hfn hE hD' hX hf hd hrow hwf hrs
    go_enter Tryz.func29, Tryz.ntmps29
    go_wp2_with fail
    refine Hfn.out.mono ?_
    rintro e w1 ⟨rfl, hb1⟩
    have Hb1 := hide hb1
    clear hb1 Hfn
    unfold zTab
    go_wp2_with fail
    go_ret
    exact OpPost.refused HD.out rfl (Hb1.out.alloc Hb1.out.size _)
  | some p =>
    obtain ⟨i, T⟩ := p
    obtain ⟨hT, rfl⟩ := findT_at hf
    have hs := hd.ok.right i T hT
    have hfs := find_some_ B0 db sb L D T.s.name i T w hd hf
    have hfit : E = (if fitsB T.s row then (if (wasT T (col row 0)).isSome then (if hurtB T row then 64 else 0) else 4) else 62) := by rw [← hE, updE, hf]
    have Hfs := hide hfs
    have HT := hide hT
    have Hs := hide hs
    have Hrow := hide hrow
    have Hfit := hide hfit
    have Hrs := hide hrs
    have Hf := hide hf
    have HE := hide hE
    have HD' := hide hD'
    have HX := hide hX
    have Hwf := hide hwf
    clear hfs hT hs hrow hfit hrs hf hE hD' hX hwf hd
    go_enter Tryz.func29, Tryz.ntmps29
    go_wp2_with fail
    refine Hfs.out.mono ?_
    rintro e w1 ⟨tv, rfl, hts, hb1⟩
    have hts' := hts
    obtain ⟨CA, cc, XA, xc, rfl, k1, k2, k3, k4⟩ := hts
    have hal := (Below.refl w1.heap.size w1).alloc (Nat.le_refl _) (.cells #[.pointer (some ⟨db, 0, none⟩), .int .u8 (i : Nat), .string T.s.name, .slice CA T.s.cols.length cc, .slice XA T.s.ixs.length xc] 113)
    have hbl := Blk.new w1 #[.pointer (some ⟨db, 0, none⟩), .int .u8 (i : Nat), .string T.s.name, .slice CA T.s.cols.length cc, .slice XA T.s.ixs.length xc] 113
    obtain ⟨W, hW⟩ : ∃ W, w1.alloc (.cells #[.pointer (some ⟨db, 0, none⟩), .int .u8 (i : Nat), .string T.s.name, .slice CA T.s.cols.length cc, .slice XA T.s.ixs.length xc] 113) = W := ⟨_, rfl⟩
    rw [hW] at hal hbl
    have hbW := below_chain hb1 hal
    have htsW := hts'.below hal
    have p2 := hbl.c 2 (v := .string T.s.name) rfl
    have p3 := hbl.c 3 (v := .slice CA T.s.cols.length cc) rfl
    have p4 := hbl.c 4 (v := .slice XA T.s.ixs.length xc) rfl
    obtain ⟨tb, htb⟩ : ∃ tb, w1.heap.size = tb := ⟨_, rfl⟩
    rw [htb] at hbl p2 p3 p4
    have hfits := fits_any T.s (.agg #[.string T.s.name, .slice CA T.s.cols.length cc, .slice XA T.s.ixs.length xc]) A n c row W ⟨CA, cc, XA, xc, rfl, k1, k2, (k3.below hal).rd, (k4.below hal).rd⟩ (right_small Hs.out) Hs.out (Hrow.out.below hbW).rd hn Hrs.out (HD.out.tabs.below hbW)
    have Hfits := hide hfits
    have HBL := hide hbl
    have HbW := hide hbW
    have HtsW := hide htsW
    clear hfits hbl hbW htsW hal hb1 hts' k1 k2 k3 k4 Hfs
    go_wp2_with fail
    clear hW htb
    refine Hfits.out.mono ?_
    rintro e w2 ⟨rfl, hb2⟩
    have Hb2 := hide (below_chain HbW.out hb2)
    have HBL2 := hide (HBL.out.below hb2)
    have Hts2 := hide (HtsW.out.below hb2)
    clear hb2 Hfits p2 p3 p4 HBL HtsW HbW w1
    cases hfb : fitsB T.s row with
    | false =>
      have h62 : E = 62 := by rw [Hfit.out, hfb]; rfl
      subst h62
      have hDD : D' = D := by rw [← HD'.out, updD, HE.out]; rfl
      subst hDD
      rw [show (cond false 0 62 : Int) = 62 from rfl]
      clear hfb
      go_wp2_with fail
      go_ret
      exact OpPost.refused HD.out rfl Hb2.out
    | true =>
      have hro : RowOf T.s row := ⟨hfb, Hwf.out⟩
      have hs := Hs.out
      have hpos := hro.pos hs
      have hv0 := (hro.col hs 0)
      have ec0 : col row 0 = row[0] := by rw [col, List.getD_eq_getElem?_getD, List.getElem?_eq_getElem hpos]; rfl
      obtain ⟨v0, hv0e⟩ : ∃ v0, col row 0 = v0 := ⟨_, rfl⟩
      rw [hv0e] at hv0
      obtain ⟨b, o, rfl, z0, z1, z2⟩ := Row.cells (A := A) (l := row) (by rw [hn]; exact (Hrow.out.below Hb2.out).rd) 0 hpos
      rw [← ec0, hv0e, Nat.zero_mul, Nat.add_zero] at z0 z1 z2
      have hd2 := HD.out.below Hb2.out
      have hfit2 : E = (if (wasT T v0).isSome then (if hurtB T row then 64 else 0) else 4) := by rw [Hfit.out, hfb, hv0e]; rfl
      have q0 := HBL2.out.c 0 (v := .pointer (some ⟨db, 0, none⟩)) rfl
      have q1 := HBL2.out.c 1 (v := .int .u8 (i : Nat)) rfl
      have q2 := HBL2.out.c 2 (v := .string T.s.name) rfl
      have q3 := HBL2.out.c 3 (v := .slice CA T.s.cols.length cc) rfl
      have q4 := HBL2.out.c 4 (v := .slice XA T.s.ixs.length xc) rfl
      have hget := get_any B0 db sb L D i T _ v0 hv0.1 (by omega) w2.drew (hd2.below ((Below.refl _ _).drew)) HT.out (Hts2.out.v.below ((Below.refl _ _).drew))
      have Hget := hide hget
      have Hfit2 := hide hfit2
      have Hro := hide hro
      have Hd2 := hide hd2
      have Hv0 := hide hv0e
      have Hv0k := hide hv0
      have hn0 : 0 < n := by omega
      rw [show (cond true 0 62 : Int) = 0 from rfl]
      clear hro hs hv0 ec0 hv0e hd2 hfit2 hget hfb Hfit Hwf
      cases hw : wasT T v0 with
      | none =>
        have h4 : E = 4 := by rw [Hfit2.out, hw]; rfl
        subst h4
        have hDD : D' = D := by rw [← HD'.out, updD, HE.out]; rfl
        subst hDD
        have hget : Calls Tryz.prog 61 #[.agg #[.pointer (some ⟨db, 0, none⟩), .int .u8 (i : Nat), .string T.s.name, .slice CA T.s.cols.length cc, .slice XA T.s.ixs.length xc], .agg #[.int .i64 v0.k, .int .i64 v0.n, .string v0.s]] w2.drew (fun e w' => (e = .returned (.tuple #[.slice none 0 0, .bool false, .int .i64 0])) ∧ Below w2.drew.heap.size w2.drew w') := Hget.out.mono fun e w' h => by
          have h1 := h.1
          rw [GetRow, hw] at h1
          exact ⟨h1, h.2⟩
        have Hg2 := hide hget
        clear hw hget Hget Hfit2
        go_wp2_with fail
        go_region_with (go_at_call 61; refine Hg2.out.mono ?_; rintro e w3 ⟨rfl, hb3⟩)
        all_goals
          have hb3' := undrewd hb3
          have Hb3 := hide (below_then Hb2.out Hb2.out.size hb3')
          clear hb3 hb3' q0 q1 q2 q3 q4 z0 z1 z2 Hg2
          go_simp
          go_wp2_with fail
          go_ret
          exact OpPost.refused HD.out rfl Hb3.out
      | some r =>
        have hget : Calls Tryz.prog 61 #[.agg #[.pointer (some ⟨db, 0, none⟩), .int .u8 (i : Nat), .string T.s.name, .slice CA T.s.cols.length cc, .slice XA T.s.ixs.length xc], .agg #[.int .i64 v0.k, .int .i64 v0.n, .string v0.s]] w2.drew (fun e w' => (∃ A c, e = .returned (.tuple #[.slice A r.length c, .bool true, .int .i64 0]) ∧ w'.ownsRow w2.drew.heap.size 28 3 (.slice A r.length c) r.length (rowCells r)) ∧ Below w2.drew.heap.size w2.drew w') := Hget.out.mono fun e w' h => by
          have h1 := h.1
          rw [GetRow, hw] at h1
          exact ⟨h1, h.2⟩
        have hfit3 : E = (if hurtB T row then 64 else 0) := by rw [Hfit2.out, hw]; rfl
        have Hg2 := hide hget
        have Hw := hide hw
        have Hwm := hide (wasT_some hw)
        have Hfit3 := hide hfit3
        clear hw hget Hget Hfit2 hfit3
        go_wp2_with fail
        go_region_with (go_at_call 61; refine Hg2.out.mono ?_; rintro e w3 ⟨⟨A3, c3, rfl, hown3⟩, hb3⟩)
        all_goals
          have hb3' := undrewd hb3
          have HO3 := hide (RdS.of_own (B0 := B0) hown3 (by decide) (by decide))
          have Hb3 := hide (below_then Hb2.out Hb2.out.size hb3')
          have hbl3 := HBL2.out.below hb3'
          have s0 := hbl3.c 0 (v := .pointer (some ⟨db, 0, none⟩)) rfl
          have s1 := hbl3.c 1 (v := .int .u8 (i : Nat)) rfl
          have s2 := hbl3.c 2 (v := .string T.s.name) rfl
          have s3 := hbl3.c 3 (v := .slice CA T.s.cols.length cc) rfl
          have s4 := hbl3.c 4 (v := .slice XA T.s.ixs.length xc) rfl
          have Hbl3 := hide hbl3
          have Hts3 := hide (Hts2.out.below hb3')
          have hfr := free_any B0 db sb L D i T _ (some ⟨b, o, none⟩) n c row w3 (HD.out.below Hb3.out) (by omega) HT.out Hts3.out.v (Hrow.out.below Hb3.out).rd hn Hro.out
          have Hfr := hide hfr
          clear hb3 hb3' hown3 hbl3 q0 q1 q2 q3 q4 z0 z1 z2 Hg2 hfr
          go_simp
          go_wp2_with fail
          refine Hfr.out.mono ?_
          rintro e w5 ⟨rfl, hb5⟩
          have Hb5 := hide (below_then Hb3.out Hb3.out.size hb5)
          have Hbl5 := hide (Hbl3.out.below hb5)
          have Hts5 := hide (Hts3.out.below hb5)
          have HO5 := hide (HO3.out.below hb5)
          clear hb5 s0 s1 s2 s3 s4 Hfr Hbl3 Hts3 Hb3 HO3
          cases hhu : hurtB T row with
          | true =>
            have h2 : E = 64 := by rw [Hfit3.out, hhu]; rfl
            subst h2
            have hDD : D' = D := by rw [← HD'.out, updD, HE.out]; rfl
            subst hDD
            rw [show (cond true 64 0 : Int) = 64 from rfl]
            go_wp2_with fail
            go_ret
            exact OpPost.refused HD.out rfl Hb5.out
          | false =>
            have h2 : E = 0 := by rw [Hfit3.out, hhu]; rfl
            subst h2
            have hDD : D' = D.set i (layT T v0 (some row)) := by rw [← HD'.out, updD, HE.out, if_pos rfl, putD, Hf.out, Hv0.out]
            subst hDD
            rw [show (cond false 64 0 : Int) = 0 from rfl]
            have u0 := Hbl5.out.c 0 (v := .pointer (some ⟨db, 0, none⟩)) rfl
            have u1 := Hbl5.out.c 1 (v := .int .u8 (i : Nat)) rfl
            have u2 := Hbl5.out.c 2 (v := .string T.s.name) rfl
            have u3 := Hbl5.out.c 3 (v := .slice CA T.s.cols.length cc) rfl
            have u4 := Hbl5.out.c 4 (v := .slice XA T.s.ixs.length xc) rfl
            have hd5 := HD.out.below Hb5.out
            have hi4 := hd5.ok.lt4 HT.out
            have hB5 : B0 ≤ w5.heap.size := Nat.le_trans hB0 Hb5.out.size
            have hoo := hd5.ok.fit i T HT.out r Hwm.out.1
            have hlay := lay_upd B0 db sb L i T.s _ (some ⟨b, o, none⟩) n c row A3 r.length c3 r w5 hd5.d hd5.tabs Hts5.out (by omega) Hs.out (Hrow.out.below Hb5.out) hn Hro.out HO5.out rfl hoo (by omega) hB5 hd5.b0
            have Hlay := hide hlay
            have Hd5 := hide hd5
            have Hoo := hide hoo
            clear hlay hd5 hhu hoo
            go_wp2_with fail
            refine Hlay.out.mono ?_
            rintro e w6 ⟨rfl, hd6, hu6⟩
            have Hd6 := hide hd6
            have Hu6 := hide hu6
            clear hd6 hu6 u0 u1 u2 u3 u4 Hlay
            go_wp2_with fail
            go_ret
            have hd0 := HD.out
            have hwn := Hw.out
            have hrow2 : ∀ r, some row = some r → RowOf T.s r ∧ col r 0 = v0 := fun r hr => by injection hr with hr; subst hr; exact ⟨Hro.out, Hv0.out⟩
            have h64 := hd0.ok.n64 i T HT.out
            have hlenR : (layT T v0 (some row)).rows.length ≤ 64 := by
              have := filter_len v0 T.rows (hd0.ok.keys i T HT.out) r hwn
              simp only [layT, Option.toList_some, List.length_append, List.length_singleton]
              omega
            have hD6 := Hd6.out
            have hLl := layC_len i T.s.ixs (col row 0) (some row) (some r)
            have hx3 := (right_facts Hs.out).x3
            rw [Hv0.out] at hD6 hLl
            have hrep := hd0.rep.lay hd0.ok HT.out Hv0k.out.1 hrow2
            rw [hwn] at hrep
            have hrn := RepN.upd (v0 := v0) (r := row) (u := r) hd0.cnt hd0.ok HT.out hwn
            rw [hwn] at hrn
            have hok := hd0.ok.lay HT.out hrow2 hlenR
            have hu : Upd db w w6 := (Upd.of_below Hb5.out hd0.d.lt).trans Hu6.out
            refine ⟨_, rfl, ⟨hD6, hrep, hrn, hok, ?_, tabs_upd hd0.tabs hd0.d hu hd0.b0, hd0.b0⟩, ?_, by rw [if_pos rfl, ← HX.out, updX, Hf.out]; simp only [Hv0.out, hwn], hu⟩
            · intro x hx
              simp only [List.mem_append] at hx
              rcases hx with hx | hx
              · exact hd0.small x hx
              exact layC_small Hs.out Hv0k.out.2 (fun r hr => (hrow2 r hr).1) (fun r' hr => by injection hr with hr; subst hr; exact Hoo.out) x hx
            simp only [List.length_append]; omega
def zSch : Value := .agg #[.string ⟨#[]⟩, .slice none 0 0, .slice none 0 0]
def SchP (D : List Tb) (nm : ByteArray) (w' : World) (e : Ending) : Prop := match findT D nm 0 with
  | none => e = .returned (.tuple #[zSch, .int .i64 60])
  | some (_, T) => ∃ v, e = .returned (.tuple #[v, .int .i64 0]) ∧ SchV w' T.s v
theorem Blk.past {w : World} {b : Nat} {cs : Array Value} {t : TypeId} (h : Blk w b cs t) (i : Nat) (hi : cs.size ≤ i) : w.cell? ⟨b, i, none⟩ = none := by
  unfold Blk at h
  simp [World.cell?, h, hi]
theorem not_cols {W : World} {g : Nat} (h : Blk W g #[.string ⟨#[]⟩, .slice none 0 0, .slice none 0 0] 25) {o : Nat} {a b c : Value} (h1 : W.cell? ⟨g, o, none⟩ = some a) (h2 : W.cell? ⟨g, o + 1, none⟩ = some b) : ¬ (∃ s k, a = .string s ∧ b = .int .i64 k) := by
  rintro ⟨s, k, rfl, rfl⟩
  have e0 := h.c 0 (v := .string ⟨#[]⟩) rfl
  have e1 := h.c 1 (v := .slice none 0 0) rfl
  have e2 := h.c 2 (v := .slice none 0 0) rfl
  match o, h1, h2 with
  | 0, _, h2 => rw [Nat.zero_add, show W.cell? ⟨g, 1, none⟩ = _ from e1] at h2; cases h2
  | 1, h1, _ => rw [show W.cell? ⟨g, 1, none⟩ = _ from e1] at h1; cases h1
  | 2, h1, _ => rw [show W.cell? ⟨g, 2, none⟩ = _ from e2] at h1; cases h1
  | o + 3, h1, _ => rw [h.past (o + 3) (by simp)] at h1; cases h1
theorem not_ixs {W : World} {g : Nat} (h : Blk W g #[.string ⟨#[]⟩, .slice none 0 0, .slice none 0 0] 25) {o : Nat} {k : Int} (h1 : W.cell? ⟨g, o, none⟩ = some (.int .i64 k)) : False := by
  have e0 := h.c 0 (v := .string ⟨#[]⟩) rfl
  have e1 := h.c 1 (v := .slice none 0 0) rfl
  have e2 := h.c 2 (v := .slice none 0 0) rfl
  match o, h1 with
  | 0, h1 => rw [show W.cell? ⟨g, 0, none⟩ = _ from e0] at h1; cases h1
  | 1, h1 => rw [show W.cell? ⟨g, 1, none⟩ = _ from e1] at h1; cases h1
  | 2, h1 => rw [show W.cell? ⟨g, 2, none⟩ = _ from e2] at h1; cases h1
  | o + 3, h1 => rw [h.past (o + 3) (by simp)] at h1; cases h1
theorem cols_ne {W : World} {g n : Nat} (h : Blk W g #[.string ⟨#[]⟩, .slice none 0 0, .slice none 0 0] 25) {cs : List Col} {b o : Nat} (hn : cs.length = n) (hr : Rd W 3 (some ⟨b, o, none⟩) n (cs.flatMap Col.cells)) (hp : 0 < n) : b ≠ g := by
  rintro rfl
  obtain ⟨b', o', hA, hc⟩ := hr.some_ hp
  cases hA
  cases cs with
  | nil => simp at hn; omega
  | cons x cs =>
    have h1 := hc 0 (by simp [Col.cells])
    have h2 := hc 1 (by simp [Col.cells])
    exact not_cols (c := .nilIface) h h1 h2 ⟨_, _, rfl, rfl⟩
theorem ixs_ne {W : World} {g n : Nat} (h : Blk W g #[.string ⟨#[]⟩, .slice none 0 0, .slice none 0 0] 25) {cs : List Ix} {b o : Nat} (hn : cs.length = n) (hr : Rd W 2 (some ⟨b, o, none⟩) n (cs.flatMap Ix.cells)) (hp : 0 < n) : b ≠ g := by
  rintro rfl
  obtain ⟨b', o', hA, hc⟩ := hr.some_ hp
  cases hA
  cases cs with
  | nil => simp at hn; omega
  | cons x cs => exact not_ixs h (hc 0 (by simp [Ix.cells]))
set_option maxHeartbeats 3200000 in
set_option maxRecDepth 1000000 in
theorem schema_any (B0 db sb : Nat) (L : List Chg) (D : List Tb) (nm : ByteArray) (w : World) (hd : DbAt B0 w db sb L D) (hnm : nm.size ≤ 9223372036854775807) :
    Calls Tryz.prog 30 #[.pointer (some ⟨db, 0, none⟩), .string nm] w fun e w' => SchP D nm w' e ∧ Below w.heap.size w w' := by
  have hal0 := (Below.refl w.heap.size w).alloc (Nat.le_refl _) (.cells #[.string ⟨#[]⟩, .slice none 0 0, .slice none 0 0] 25)
  have hkb := Blk.new w #[.string ⟨#[]⟩, .slice none 0 0, .slice none 0 0] 25
  obtain ⟨W0, hW0⟩ : ∃ W0, w.alloc (.cells #[.string ⟨#[]⟩, .slice none 0 0, .slice none 0 0] 25) = W0 := ⟨_, rfl⟩
  rw [hW0] at hal0 hkb
  have hd0 := hd.below hal0
  have HD := hide hd
  have Hal0 := hide hal0
  have Hkb := hide hkb
  have fin : ∀ W, Blk W w.heap.size #[.string ⟨#[]⟩, .slice none 0 0, .slice none 0 0] 25 → Below w.heap.size w W →
      (W.cell? ⟨w.heap.size, 0, none⟩ = some (.string ⟨#[]⟩) ∧ W.cell? ⟨w.heap.size, 1, none⟩ = some (.slice none 0 0) ∧ W.cell? ⟨w.heap.size, 2, none⟩ = some (.slice none 0 0)) ∧
      (W.frozen? ⟨w.heap.size, 0, none⟩ = false ∧ W.frozen? ⟨w.heap.size, 1, none⟩ = false ∧ W.frozen? ⟨w.heap.size, 2, none⟩ = false) := fun W h _ => ⟨⟨h.c 0 rfl, h.c 1 rfl, h.c 2 rfl⟩, h.fr 0, h.fr 1, h.fr 2⟩
  have fin2 : ∀ W a b c, Blk W w.heap.size #[.string ⟨#[]⟩, .slice none 0 0, .slice none 0 0] 25 → Below w.heap.size w W → ∃ W', W' = ((W.setCell ⟨w.heap.size, 0, none⟩ a).setCell ⟨w.heap.size, 1, none⟩ b).setCell ⟨w.heap.size, 2, none⟩ c ∧
      (W'.cell? ⟨w.heap.size, 0, none⟩ = some a ∧ W'.cell? ⟨w.heap.size, 1, none⟩ = some b ∧ W'.cell? ⟨w.heap.size, 2, none⟩ = some c) ∧ Below w.heap.size w W' ∧ (∀ (k m : Nat) (A : Option Addr) (xs : List Value), Rd W k A m xs → (0 < m → ∀ b' o', A = some ⟨b', o', none⟩ → b' ≠ w.heap.size) → Rd W' k A m xs) := fun W a b c h hb => by
    have h3 := ((h.set 0 a).set 1 b).set 2 c
    refine ⟨_, rfl, ⟨h3.c 0 rfl, h3.c 1 rfl, h3.c 2 rfl⟩, ((hb.setCell (p := ⟨w.heap.size, 0, none⟩) (by simp) _).setCell (p := ⟨w.heap.size, 1, none⟩) (by simp) _).setCell (p := ⟨w.heap.size, 2, none⟩) (by simp) _, fun k m A xs hr hne => ?_⟩
    refine ⟨hr.1, ?_⟩
    rcases Nat.eq_zero_or_pos m with h0 | h0
    · exact .inl h0
    obtain ⟨b', o', hA, hc⟩ := hr.some_ h0
    refine .inr ⟨b', o', hA, fun j hj => ?_⟩
    have hn := hne h0 b' o' hA
    rw [World.cell?_of_block (w := W) (a := ⟨b', o' + j, none⟩) ?_]
    · exact hc j hj
    exact (Below.heap_setCell _ _ _ b' hn).trans ((Below.heap_setCell _ _ _ b' hn).trans (Below.heap_setCell _ _ _ b' hn))
  have Fin := hide fin
  have Fin2 := hide fin2
  clear fin fin2
  unfold SchP
  cases hf : findT D nm 0 with
  | none =>
    have hfn := find_none_ B0 db sb L D nm W0 hd0 hnm hf
    have Hfn := hide hfn
    clear hfn hf hd hd0 hal0 hkb
    go_enter Tryz.func30, Tryz.ntmps30
    go_wp2_with fail
    refine Hfn.out.mono ?_
    rintro e w1 ⟨rfl, hb1⟩
    have Hb1 := hide (below_then Hal0.out Hal0.out.size hb1)
    have Hk1 := hide (Hkb.out.below hb1)
    have hal1 := (Below.refl w1.heap.size w1).alloc (Nat.le_refl _) (.cells #[.pointer none, .int .u8 0, .string ⟨#[]⟩, .slice none 0 0, .slice none 0 0] 113)
    have hB1 := below_then Hb1.out Hb1.out.size hal1
    have hK1 := Hk1.out.below hal1
    obtain ⟨⟨c0, c1, c2⟩, f0, f1, f2⟩ := Fin.out _ hK1 hB1
    obtain ⟨W', hW', ⟨d0, d1, d2⟩, hbW, _⟩ := Fin2.out _ (.string ⟨#[]⟩) (.slice none 0 0) (.slice none 0 0) hK1 hB1
    have HW := hide hbW
    subst hW'
    clear hb1 Hfn hal1 hB1 hK1 hbW Fin Fin2 Hk1 Hb1 Hkb Hal0
    unfold zTab
    clear hW0
    go_wp2_with fail
    refine bodyPost_ret (v := .tuple #[zSch, .int .i64 60]) (by simp [results, Tryz.results30, go_sem, d0, d1, d2, zSch]) rfl ?_
    exact ⟨rfl, HW.out⟩
  | some p =>
    obtain ⟨i, T⟩ := p
    obtain ⟨hT, rfl⟩ := findT_at hf
    have hfs := find_some_ B0 db sb L D T.s.name i T W0 hd0 hf
    have Hfs := hide hfs
    have HT := hide hT
    clear hfs hT hf hd hd0 hal0 hkb
    go_enter Tryz.func30, Tryz.ntmps30
    go_wp2_with fail
    refine Hfs.out.mono ?_
    rintro e w1 ⟨tv, rfl, hts, hb1⟩
    have hts' := hts
    obtain ⟨CA, cc, XA, xc, rfl, k1, k2, k3, k4⟩ := hts
    have Hb1 := hide (below_then Hal0.out Hal0.out.size hb1)
    have Hk1 := hide (Hkb.out.below hb1)
    have hal1 := (Below.refl w1.heap.size w1).alloc (Nat.le_refl _) (.cells #[.pointer (some ⟨db, 0, none⟩), .int .u8 (i : Nat), .string T.s.name, .slice CA T.s.cols.length cc, .slice XA T.s.ixs.length xc] 113)
    have hB1 := below_then Hb1.out Hb1.out.size hal1
    have hK1 := Hk1.out.below hal1
    have k3' := k3.below hal1
    have k4' := k4.below hal1
    obtain ⟨⟨c0, c1, c2⟩, f0, f1, f2⟩ := Fin.out _ hK1 hB1
    obtain ⟨W', hW', ⟨d0, d1, d2⟩, hbW, hkeep'⟩ := Fin2.out _ (.string T.s.name) (.slice CA T.s.cols.length cc) (.slice XA T.s.ixs.length xc) hK1 hB1
    have HC := hide (hkeep' _ _ _ _ k3'.rd fun hp b o hA => by subst hA; exact cols_ne hK1 rfl k3'.rd hp)
    have HX := hide (hkeep' _ _ _ _ k4'.rd fun hp b o hA => by subst hA; exact ixs_ne hK1 rfl k4'.rd hp)
    have HW := hide hbW
    subst hW'
    clear hb1 hal1 hB1 hK1 hbW Fin Fin2 Hk1 Hb1 Hkb Hal0 hts' hkeep'
    clear hW0
    go_wp2_with fail
    refine bodyPost_ret (v := .tuple #[.agg #[.string T.s.name, .slice CA T.s.cols.length cc, .slice XA T.s.ixs.length xc], .int .i64 0]) (by simp [results, Tryz.results30, go_sem, d0, d1, d2]) rfl ?_
    exact ⟨⟨_, rfl, _, _, _, _, rfl, k1, k2, HC.out, HX.out⟩, HW.out⟩
end Go.Proofs.YtekokogmnhlchaaGreatDoor
