import Derived.Test.YtekokogmnhlchaaGreatDoorB2
import Derived.Test.YtekokogmnhlchaaGreatDoorA9
import Derived.Test.YtekokogmnhlchaaGreatDoorB1
set_option linter.unusedSimpArgs false
set_option linter.unusedVariables false
set_option linter.unusedSectionVars false
namespace Go.Proofs.YtekokogmnhlchaaGreatDoor
open Go.RowKit
theorem entK_len {s : Sch} (hs : rightS s = true) {r : List V} (h : RowOf s r) (id : Nat) (x : Ix) : (entK id x r).length ≤ 60 := by
  have h1 := (h.col hs x.col.toNat).2
  have h2 := (h.col hs 0).2
  simp only [entK, List.length_cons, List.length_append]; omega
theorem keyL_len {s : Sch} (hs : rightS s = true) {r : List V} (h : RowOf s r) : (keyL r).length ≤ 1800 := by
  have h5 := flat_le' r (fun v hv => keyV_len (fits_val hs h.fit v hv).1 (fits_val hs h.fit v hv).2)
  have := (h.row hs).1
  rw [keyL]; omega
def smallC (x : Chg) : Prop := x.val.length ≤ 1800 ∧ x.key.length ≤ 60 ∧ (x.gone = true → x.val = [])
theorem layC_small {s : Sch} (hs : rightS s = true) {id : Nat} {v0 : V} (hv : (keyV v0).length ≤ 28) {row was : Option (List V)} (hr : ∀ r, row = some r → RowOf s r) (hw : ∀ r, was = some r → RowOf s r) : ∀ x ∈ layC id s.ixs v0 row was, smallC x := by
  intro x hx
  simp only [layC, List.mem_append, List.mem_singleton, List.mem_flatMap] at hx
  rcases hx with ⟨y, _, hy⟩ | rfl
  · simp only [layIx, List.mem_append, Option.mem_toList, Option.map_eq_some_iff] at hy
    rcases hy with ⟨r, h, rfl⟩ | ⟨r, h, rfl⟩
    · exact ⟨by simp, entK_len hs (hw r h) _ _, fun _ => rfl⟩
    exact ⟨by simp, entK_len hs (hr r h) _ _, fun h => by cases h⟩
  cases row with
  | none => exact ⟨by simp [layRow], by simp [layRow, rowK]; omega, fun _ => rfl⟩
  | some r => exact ⟨keyL_len hs (hr r rfl), by simp [layRow, rowK]; omega, fun h => by cases h⟩
theorem cntC_small (i n : Nat) : smallC (cntC i n) := ⟨by simp [cntC], by simp [cntC], fun h => by cases h⟩
theorem layC_len (id : Nat) (xs : List Ix) (v0 : V) (row was : Option (List V)) : (layC id xs v0 row was).length ≤ 2 * xs.length + 1 := by
  have : ∀ (l : List Ix), (l.flatMap (layIx id row was)).length ≤ 2 * l.length := by
    intro l
    induction l with
    | nil => simp
    | cons x l ih =>
      have h1 : (layIx id row was x).length ≤ 2 := by cases row <;> cases was <;> simp [layIx]
      simp only [List.flatMap_cons, List.length_append, List.length_cons]; omega
  have := this xs
  simp only [layC, List.length_append, List.length_cons, List.length_nil]; omega
def insX (D : List Tb) (nm : ByteArray) (row : List V) : List Chg := match findT D nm 0 with
  | none => []
  | some (i, T) => layC i T.s.ixs (col row 0) (some row) none ++ [cntC i (T.rows.length + 1)]
def updX (D : List Tb) (nm : ByteArray) (row : List V) : List Chg := match findT D nm 0 with
  | none => []
  | some (i, T) => layC i T.s.ixs (col row 0) (some row) (wasT T (col row 0))
def delX (D : List Tb) (nm : ByteArray) (key : V) : List Chg := match findT D nm 0 with
  | none => []
  | some (i, T) => layC i T.s.ixs key none (wasT T key) ++ [cntC i (layT T key none).rows.length]
def creX (D : List Tb) (s : Sch) : List Chg := [mkC D s]
structure OpPost (B0 db sb : Nat) (w : World) (L X : List Chg) (E : Int) (D' : List Tb) (e : Ending) (w' : World) : Prop where
  ex : ∃ L', e = .returned (.int .i64 E) ∧ DbAt B0 w' db sb L' D' ∧ L'.length ≤ L.length + 8 ∧ L' = (if E = 0 then L ++ X else L) ∧ Upd db w w'
theorem OpPost.refused {B0 db sb : Nat} {w : World} {L X : List Chg} {D : List Tb} {E : Int} {e : Ending} {w' : World} (hd : DbAt B0 w db sb L D) (he : e = .returned (.int .i64 E)) (hb : Below w.heap.size w w') (hE : E ≠ 0 := by first | decide | assumption) : OpPost B0 db sb w L X E D e w' :=
  ⟨L, he, hd.below hb, Nat.le_add_right _ _, (if_neg hE).symm, Upd.of_below hb hd.d.lt⟩
set_option maxHeartbeats 3200000 in
set_option maxRecDepth 1000000 in
theorem ins_any (B0 db sb : Nat) (L : List Chg) (D : List Tb) (nm : ByteArray) (A : Option Addr) (n c : Nat) (row : List V) (w : World) (hd : DbAt B0 w db sb L D) (hL : L.length ≤ 50000) (hnm : nm.size ≤ 9223372036854775807) (hrow : RdS B0 w 3 A n (rowCells row)) (hn : row.length = n) (hwf : ∀ v ∈ row, wf64 v.n) (hrs : ∀ v ∈ row, v.s.size ≤ 9223372036854775807) (hB0 : B0 ≤ w.heap.size) :
    Calls Tryz.prog 19 #[.pointer (some ⟨db, 0, none⟩), .string nm, .slice A n c] w (OpPost B0 db sb w L (insX D nm row) (insE D nm row) (insD D nm row)) := by
  obtain ⟨E, hE⟩ : ∃ E, insE D nm row = E := ⟨_, rfl⟩
  obtain ⟨D', hD'⟩ : ∃ D', insD D nm row = D' := ⟨_, rfl⟩
  obtain ⟨X, hX⟩ : ∃ X, insX D nm row = X := ⟨_, rfl⟩
  rw [hE, hD', hX]
  have HD := hide hd
  cases hf : findT D nm 0 with
  | none =>
    have h60 : E = 60 := by rw [← hE, insE, hf]
    have hDD : D' = D := by rw [← hD', insD, hE, h60]; rfl
    subst h60 hDD
    have hfn := find_none_ B0 db sb L D' nm w hd hnm hf
    have Hfn := hide hfn
    clear hfn hE hD' hX hf hd hrow hwf hrs
    go_enter Tryz.func19, Tryz.ntmps19
    go_wp2_with fail
    refine Hfn.out.mono ?_
    rintro e w1 ⟨rfl, hb1⟩
    have Hb1 := hide hb1
    clear hb1 Hfn
    unfold zTab
    go_wp2_with fail
    go_ret
    exact OpPost.refused HD.out rfl (Hb1.out.alloc Hb1.out.size _)
  | some p =>
    obtain ⟨i, T⟩ := p
    obtain ⟨hT, rfl⟩ := findT_at hf
    have hs := hd.ok.right i T hT
    have hfs := find_some_ B0 db sb L D T.s.name i T w hd hf
    have hfit : E = (if fitsB T.s row then (if (wasT T (col row 0)).isSome then 63 else if 64 ≤ T.rows.length then 2 else if hurtB T row then 64 else 0) else 62) := by rw [← hE, insE, hf]
    have Hfs := hide hfs
    have HT := hide hT
    have Hs := hide hs
    have Hrow := hide hrow
    have Hfit := hide hfit
    have Hrs := hide hrs
    have Hf := hide hf
    have HE := hide hE
    have HD' := hide hD'
    have HX := hide hX
    have Hwf := hide hwf
    clear hfs hT hs hrow hfit hrs hf hE hD' hX hwf hd
    go_enter Tryz.func19, Tryz.ntmps19
    go_wp2_with fail
    refine Hfs.out.mono ?_
    rintro e w1 ⟨tv, rfl, hts, hb1⟩
    have hts' := hts
    obtain ⟨CA, cc, XA, xc, rfl, k1, k2, k3, k4⟩ := hts
    have hal := (Below.refl w1.heap.size w1).alloc (Nat.le_refl _) (.cells #[.pointer (some ⟨db, 0, none⟩), .int .u8 (i : Nat), .string T.s.name, .slice CA T.s.cols.length cc, .slice XA T.s.ixs.length xc] 113)
    have hbl := Blk.new w1 #[.pointer (some ⟨db, 0, none⟩), .int .u8 (i : Nat), .string T.s.name, .slice CA T.s.cols.length cc, .slice XA T.s.ixs.length xc] 113
    obtain ⟨W, hW⟩ : ∃ W, w1.alloc (.cells #[.pointer (some ⟨db, 0, none⟩), .int .u8 (i : Nat), .string T.s.name, .slice CA T.s.cols.length cc, .slice XA T.s.ixs.length xc] 113) = W := ⟨_, rfl⟩
    rw [hW] at hal hbl
    have hbW := below_chain hb1 hal
    have htsW := hts'.below hal
    have p2 := hbl.c 2 (v := .string T.s.name) rfl
    have p3 := hbl.c 3 (v := .slice CA T.s.cols.length cc) rfl
    have p4 := hbl.c 4 (v := .slice XA T.s.ixs.length xc) rfl
    obtain ⟨tb, htb⟩ : ∃ tb, w1.heap.size = tb := ⟨_, rfl⟩
    rw [htb] at hbl p2 p3 p4
    have hfits := fits_any T.s (.agg #[.string T.s.name, .slice CA T.s.cols.length cc, .slice XA T.s.ixs.length xc]) A n c row W ⟨CA, cc, XA, xc, rfl, k1, k2, (k3.below hal).rd, (k4.below hal).rd⟩ (right_small Hs.out) Hs.out (Hrow.out.below hbW).rd hn Hrs.out (HD.out.tabs.below hbW)
    have Hfits := hide hfits
    have HBL := hide hbl
    have HbW := hide hbW
    have HtsW := hide htsW
    clear hfits hbl hbW htsW hal hb1 hts' k1 k2 k3 k4 Hfs
    go_wp2_with fail
    clear hW htb
    refine Hfits.out.mono ?_
    rintro e w2 ⟨rfl, hb2⟩
    have Hb2 := hide (below_chain HbW.out hb2)
    have HBL2 := hide (HBL.out.below hb2)
    have Hts2 := hide (HtsW.out.below hb2)
    clear hb2 Hfits p2 p3 p4 HBL HtsW HbW w1
    cases hfb : fitsB T.s row with
    | false =>
      have h62 : E = 62 := by rw [Hfit.out, hfb]; rfl
      subst h62
      have hDD : D' = D := by rw [← HD'.out, insD, HE.out]; rfl
      subst hDD
      rw [show (cond false 0 62 : Int) = 62 from rfl]
      clear hfb
      go_wp2_with fail
      go_ret
      exact OpPost.refused HD.out rfl Hb2.out
    | true =>
      have hro : RowOf T.s row := ⟨hfb, Hwf.out⟩
      have hs := Hs.out
      have hpos := hro.pos hs
      have hv0 := (hro.col hs 0)
      have ec0 : col row 0 = row[0] := by rw [col, List.getD_eq_getElem?_getD, List.getElem?_eq_getElem hpos]; rfl
      obtain ⟨v0, hv0e⟩ : ∃ v0, col row 0 = v0 := ⟨_, rfl⟩
      rw [hv0e] at hv0
      obtain ⟨b, o, rfl, z0, z1, z2⟩ := Row.cells (A := A) (l := row) (by rw [hn]; exact (Hrow.out.below Hb2.out).rd) 0 hpos
      rw [← ec0, hv0e, Nat.zero_mul, Nat.add_zero] at z0 z1 z2
      have hd2 := HD.out.below Hb2.out
      have hfit2 : E = (if (wasT T v0).isSome then 63 else if 64 ≤ T.rows.length then 2 else if hurtB T row then 64 else 0) := by rw [Hfit.out, hfb, hv0e]; rfl
      have q0 := HBL2.out.c 0 (v := .pointer (some ⟨db, 0, none⟩)) rfl
      have q1 := HBL2.out.c 1 (v := .int .u8 (i : Nat)) rfl
      have q2 := HBL2.out.c 2 (v := .string T.s.name) rfl
      have q3 := HBL2.out.c 3 (v := .slice CA T.s.cols.length cc) rfl
      have q4 := HBL2.out.c 4 (v := .slice XA T.s.ixs.length xc) rfl
      have hget := get_any B0 db sb L D i T _ v0 hv0.1 (by omega) w2.drew (hd2.below ((Below.refl _ _).drew)) HT.out (Hts2.out.v.below ((Below.refl _ _).drew))
      have Hget := hide hget
      have Hfit2 := hide hfit2
      have Hro := hide hro
      have Hd2 := hide hd2
      have Hv0 := hide hv0e
      have Hv0k := hide hv0
      have hn0 : 0 < n := by omega
      rw [show (cond true 0 62 : Int) = 0 from rfl]
      clear hro hs hv0 ec0 hv0e hd2 hfit2 hget hfb Hfit Hwf
      cases hw : wasT T v0 with
      | some r =>
        have h63 : E = 63 := by rw [Hfit2.out, hw]; rfl
        subst h63
        have hDD : D' = D := by rw [← HD'.out, insD, HE.out]; rfl
        subst hDD
        have hget : Calls Tryz.prog 61 #[.agg #[.pointer (some ⟨db, 0, none⟩), .int .u8 (i : Nat), .string T.s.name, .slice CA T.s.cols.length cc, .slice XA T.s.ixs.length xc], .agg #[.int .i64 v0.k, .int .i64 v0.n, .string v0.s]] w2.drew (fun e w' => (∃ A c, e = .returned (.tuple #[.slice A r.length c, .bool true, .int .i64 0]) ∧ w'.ownsRow w2.drew.heap.size 28 3 (.slice A r.length c) r.length (rowCells r)) ∧ Below w2.drew.heap.size w2.drew w') := Hget.out.mono fun e w' h => by
          have h1 := h.1
          rw [GetRow, hw] at h1
          exact ⟨h1, h.2⟩
        have Hg2 := hide hget
        clear hw hget Hget Hfit2
        go_wp2_with fail
        go_region_with (go_at_call 61; refine Hg2.out.mono ?_; rintro e w3 ⟨⟨A3, c3, rfl, _⟩, hb3⟩)
        all_goals
          have hb3' := undrewd hb3
          have Hb3 := hide (below_then Hb2.out Hb2.out.size hb3')
          have hbl3 := HBL2.out.below hb3'
          have r0 := hbl3.c 0 (v := .pointer (some ⟨db, 0, none⟩)) rfl
          have r1 := hbl3.c 1 (v := .int .u8 (i : Nat)) rfl
          have r2 := hbl3.c 2 (v := .string T.s.name) rfl
          have r3 := hbl3.c 3 (v := .slice CA T.s.cols.length cc) rfl
          have r4 := hbl3.c 4 (v := .slice XA T.s.ixs.length xc) rfl
          have hsz := size_any B0 db sb L D' i T _ w3 (HD.out.below Hb3.out) HT.out (Hts2.out.v.below hb3')
          have Hsz := hide hsz
          clear hb3 hb3' hbl3 q0 q1 q2 q3 q4 z0 z1 z2 hsz Hg2
          go_simp
          go_wp2_with fail
          refine Hsz.out.mono ?_
          rintro e w4 ⟨rfl, hb4⟩
          have Hb4 := hide (below_then Hb3.out Hb3.out.size hb4)
          clear hb4 r0 r1 r2 r3 r4 Hsz
          go_wp2_with fail
          go_ret
          exact OpPost.refused HD.out rfl Hb4.out
      | none =>
        have hget : Calls Tryz.prog 61 #[.agg #[.pointer (some ⟨db, 0, none⟩), .int .u8 (i : Nat), .string T.s.name, .slice CA T.s.cols.length cc, .slice XA T.s.ixs.length xc], .agg #[.int .i64 v0.k, .int .i64 v0.n, .string v0.s]] w2.drew (fun e w' => (e = .returned (.tuple #[.slice none 0 0, .bool false, .int .i64 0])) ∧ Below w2.drew.heap.size w2.drew w') := Hget.out.mono fun e w' h => by
          have h1 := h.1
          rw [GetRow, hw] at h1
          exact ⟨h1, h.2⟩
        have hfit3 : E = (if 64 ≤ T.rows.length then 2 else if hurtB T row then 64 else 0) := by rw [Hfit2.out, hw]; rfl
        have Hg2 := hide hget
        have Hw := hide hw
        have Hfit3 := hide hfit3
        have h64 := Hd2.out.ok.n64 i T HT.out
        clear hw hget Hget Hfit2 hfit3
        go_wp2_with fail
        go_region_with (go_at_call 61; refine Hg2.out.mono ?_; rintro e w3 ⟨rfl, hb3⟩)
        all_goals
          have hb3' := undrewd hb3
          have Hb3 := hide (below_then Hb2.out Hb2.out.size hb3')
          have hbl3 := HBL2.out.below hb3'
          have r0 := hbl3.c 0 (v := .pointer (some ⟨db, 0, none⟩)) rfl
          have r1 := hbl3.c 1 (v := .int .u8 (i : Nat)) rfl
          have r2 := hbl3.c 2 (v := .string T.s.name) rfl
          have r3 := hbl3.c 3 (v := .slice CA T.s.cols.length cc) rfl
          have r4 := hbl3.c 4 (v := .slice XA T.s.ixs.length xc) rfl
          have hsz := size_any B0 db sb L D i T _ w3 (HD.out.below Hb3.out) HT.out (Hts2.out.v.below hb3')
          have Hsz := hide hsz
          have Hbl3 := hide hbl3
          have Hts3 := hide (Hts2.out.below hb3')
          clear hb3 hb3' hbl3 q0 q1 q2 q3 q4 z0 z1 z2 hsz Hg2
          go_simp
          go_wp2_with fail
          refine Hsz.out.mono ?_
          rintro e w4 ⟨rfl, hb4⟩
          have Hb4 := hide (below_then Hb3.out Hb3.out.size hb4)
          have Hbl4 := hide (Hbl3.out.below hb4)
          have Hts4 := hide (Hts3.out.below hb4)
          clear hb4 r0 r1 r2 r3 r4 Hsz Hbl3 Hts3 Hb3
          by_cases h64b : 64 ≤ T.rows.length
          · have h2 : E = 2 := by rw [Hfit3.out, if_pos h64b]
            subst h2
            have hDD : D' = D := by rw [← HD'.out, insD, HE.out]; rfl
            subst hDD
            have h64i : (64 : Int) ≤ (T.rows.length : Int) := by omega
            go_wp2_with fail
            go_ret
            exact OpPost.refused HD.out rfl Hb4.out
          have h64i : ¬ (64 : Int) ≤ (T.rows.length : Int) := by omega
          have s0 := Hbl4.out.c 0 (v := .pointer (some ⟨db, 0, none⟩)) rfl
          have s1 := Hbl4.out.c 1 (v := .int .u8 (i : Nat)) rfl
          have s2 := Hbl4.out.c 2 (v := .string T.s.name) rfl
          have s3 := Hbl4.out.c 3 (v := .slice CA T.s.cols.length cc) rfl
          have s4 := Hbl4.out.c 4 (v := .slice XA T.s.ixs.length xc) rfl
          have hfr := free_any B0 db sb L D i T _ (some ⟨b, o, none⟩) n c row w4 (HD.out.below Hb4.out) (by omega) HT.out Hts4.out.v (Hrow.out.below Hb4.out).rd hn Hro.out
          have Hfr := hide hfr
          clear hfr
          go_wp2_with fail
          refine Hfr.out.mono ?_
          rintro e w5 ⟨rfl, hb5⟩
          have Hb5 := hide (below_then Hb4.out Hb4.out.size hb5)
          have Hbl5 := hide (Hbl4.out.below hb5)
          have Hts5 := hide (Hts4.out.below hb5)
          clear hb5 s0 s1 s2 s3 s4 Hfr Hbl4 Hts4 Hb4
          cases hhu : hurtB T row with
          | true =>
            have h2 : E = 64 := by rw [Hfit3.out, if_neg h64b, hhu]; rfl
            subst h2
            have hDD : D' = D := by rw [← HD'.out, insD, HE.out]; rfl
            subst hDD
            rw [show (cond true 64 0 : Int) = 64 from rfl]
            go_wp2_with fail
            go_ret
            exact OpPost.refused HD.out rfl Hb5.out
          | false =>
            have h2 : E = 0 := by rw [Hfit3.out, if_neg h64b, hhu]; rfl
            subst h2
            have hDD : D' = D.set i (layT T v0 (some row)) := by rw [← HD'.out, insD, HE.out, if_pos rfl, putD, Hf.out, Hv0.out]
            subst hDD
            rw [show (cond false 64 0 : Int) = 0 from rfl]
            have u0 := Hbl5.out.c 0 (v := .pointer (some ⟨db, 0, none⟩)) rfl
            have u1 := Hbl5.out.c 1 (v := .int .u8 (i : Nat)) rfl
            have u2 := Hbl5.out.c 2 (v := .string T.s.name) rfl
            have u3 := Hbl5.out.c 3 (v := .slice CA T.s.cols.length cc) rfl
            have u4 := Hbl5.out.c 4 (v := .slice XA T.s.ixs.length xc) rfl
            have hd5 := HD.out.below Hb5.out
            have hi4 := hd5.ok.lt4 HT.out
            have hB5 : B0 ≤ w5.heap.size := Nat.le_trans hB0 Hb5.out.size
            have hlay := lay_ins B0 db sb L i T.s _ (some ⟨b, o, none⟩) n c row w5 hd5.d hd5.tabs Hts5.out (by omega) Hs.out (Hrow.out.below Hb5.out) hn Hro.out (by omega) hB5 hd5.b0
            have Hlay := hide hlay
            have Hd5 := hide hd5
            clear hlay hd5 hhu
            go_wp2_with fail
            refine Hlay.out.mono ?_
            rintro e w6 ⟨rfl, hd6, hu6⟩
            have hsaf := Hbl5.out.safe (by decide) (by decide) B0
            have x0 := u0.upd hsaf Hd5.out.d hu6
            have x1 := u1.upd hsaf Hd5.out.d hu6
            have x2 := u2.upd hsaf Hd5.out.d hu6
            have x3 := u3.upd hsaf Hd5.out.d hu6
            have x4 := u4.upd hsaf Hd5.out.d hu6
            have hLl := layC_len i T.s.ixs (col row 0) (some row) none
            have hx3 := (right_facts Hs.out).x3
            have hcnt := count_any B0 db sb (L ++ layC i T.s.ixs (col row 0) (some row) none) D i T.s _ (T.rows.length + 1) w6 hd6 (Hts5.out.upd Hd5.out.d hu6).v (by omega) (by omega) (by rw [List.length_append]; omega) (Nat.le_trans hB5 hu6.size)
            rw [show ((T.rows.length + 1 : Nat) : Int) = (T.rows.length : Int) + 1 by omega] at hcnt
            have Hcnt := hide hcnt
            have Hd6 := hide hd6
            have Hu6 := hide hu6
            clear hcnt hd6 hu6 hsaf u0 u1 u2 u3 u4 Hlay
            go_wp2_with fail
            refine Hcnt.out.mono ?_
            rintro e w7 ⟨rfl, hd7, hu7⟩
            have Hd7 := hide hd7
            have Hu7 := hide hu7
            clear hd7 hu7 x0 x1 x2 x3 x4 Hcnt
            go_wp2_with fail
            go_ret
            have hd0 := HD.out
            have hwn := Hw.out
            have hrow2 : ∀ r, some row = some r → RowOf T.s r ∧ col r 0 = v0 := fun r hr => by injection hr with hr; subst hr; exact ⟨Hro.out, Hv0.out⟩
            have hlenR : (layT T v0 (some row)).rows.length = T.rows.length + 1 := by simp only [layT, filter_none hwn, Option.toList_some, List.length_append, List.length_singleton]
            have hD7 := Hd7.out
            rw [Hv0.out] at hD7 hLl
            have hrep := (hd0.rep.lay hd0.ok HT.out Hv0k.out.1 hrow2).cnt i (T.rows.length + 1)
            rw [hwn] at hrep
            have hrn := RepN.lay (row := some row) (v0 := v0) hd0.cnt hd0.ok HT.out none
            rw [hlenR] at hrn
            have hok := hd0.ok.lay HT.out hrow2 (by rw [hlenR]; omega)
            have hu : Upd db w w7 := ((Upd.of_below Hb5.out hd0.d.lt).trans Hu6.out).trans Hu7.out
            refine ⟨_, rfl, ⟨hD7, hrep, hrn, hok, ?_, tabs_upd hd0.tabs hd0.d hu hd0.b0, hd0.b0⟩, ?_, by rw [if_pos rfl, ← HX.out, insX, Hf.out]; simp only [Hv0.out, List.append_assoc], hu⟩
            · intro x hx
              simp only [List.mem_append, List.mem_singleton] at hx
              rcases hx with (hx | hx) | rfl
              · exact hd0.small x hx
              · exact layC_small Hs.out Hv0k.out.2 (fun r hr => (hrow2 r hr).1) (fun r hr => by cases hr) x hx
              exact cntC_small _ _
            simp only [List.length_append, List.length_singleton]; omega
set_option maxHeartbeats 3200000 in
set_option maxRecDepth 1000000 in
theorem len_any (B0 db sb : Nat) (L : List Chg) (D : List Tb) (nm : ByteArray) (w : World) (hd : DbAt B0 w db sb L D) (hnm : nm.size ≤ 9223372036854775807) :
    Calls Tryz.prog 22 #[.pointer (some ⟨db, 0, none⟩), .string nm] w fun e w' => (match findT D nm 0 with
      | none => e = .returned (.tuple #[.int .i64 0, .int .i64 60])
      | some (_, T) => e = .returned (.tuple #[.int .i64 T.rows.length, .int .i64 0])) ∧ Below w.heap.size w w' := by
  cases hf : findT D nm 0 with
  | none =>
    have hfn := find_none_ B0 db sb L D nm w hd hnm hf
    have Hfn := hide hfn
    clear hfn hf hd
    go_enter Tryz.func22, Tryz.ntmps22
    go_wp2_with fail
    refine Hfn.out.mono ?_
    rintro e w1 ⟨rfl, hb1⟩
    have Hb1 := hide hb1
    clear hb1 Hfn
    unfold zTab
    go_wp2_with fail
    go_ret2
    exact ⟨rfl, Hb1.out.alloc Hb1.out.size _⟩
  | some p =>
    obtain ⟨i, T⟩ := p
    obtain ⟨hT, rfl⟩ := findT_at hf
    have hfs := find_some_ B0 db sb L D T.s.name i T w hd hf
    have Hfs := hide hfs
    have HT := hide hT
    have HD := hide hd
    clear hfs hT hf hd
    go_enter Tryz.func22, Tryz.ntmps22
    go_wp2_with fail
    refine Hfs.out.mono ?_
    rintro e w1 ⟨tv, rfl, hts, hb1⟩
    have hts' := hts
    obtain ⟨CA, cc, XA, xc, rfl, k1, k2, k3, k4⟩ := hts
    have hal := (Below.refl w1.heap.size w1).alloc (Nat.le_refl _) (.cells #[.pointer (some ⟨db, 0, none⟩), .int .u8 (i : Nat), .string T.s.name, .slice CA T.s.cols.length cc, .slice XA T.s.ixs.length xc] 113)
    have hsz := size_any B0 db sb L D i T _ (w1.alloc (.cells #[.pointer (some ⟨db, 0, none⟩), .int .u8 (i : Nat), .string T.s.name, .slice CA T.s.cols.length cc, .slice XA T.s.ixs.length xc] 113)) (HD.out.below (below_chain hb1 hal)) HT.out (hts'.v.below hal)
    have Hsz := hide hsz
    have Hb := hide (below_chain hb1 hal)
    clear hsz hal hb1 hts' k1 k2 k3 k4 Hfs
    go_wp2_with fail
    refine Hsz.out.mono ?_
    rintro e w2 ⟨rfl, hb2⟩
    have Hb2 := hide (below_then Hb.out Hb.out.size hb2)
    clear hb2 Hsz
    go_wp2_with fail
    go_ret2
    exact ⟨rfl, Hb2.out⟩
set_option maxHeartbeats 3200000 in
set_option maxRecDepth 1000000 in
theorem del_any (B0 db sb : Nat) (L : List Chg) (D : List Tb) (nm : ByteArray) (v : V) (hvw : wf64 v.n) (hvs : v.s.size ≤ 4000000) (w : World) (hd : DbAt B0 w db sb L D) (hL : L.length ≤ 50000) (hnm : nm.size ≤ 9223372036854775807) (hB0 : B0 ≤ w.heap.size) :
    Calls Tryz.prog 23 #[.pointer (some ⟨db, 0, none⟩), .string nm, v.val] w (OpPost B0 db sb w L (delX D nm v) (delE D nm v) (delD D nm v)) := by
  obtain ⟨E, hE⟩ : ∃ E, delE D nm v = E := ⟨_, rfl⟩
  obtain ⟨D', hD'⟩ : ∃ D', delD D nm v = D' := ⟨_, rfl⟩
  obtain ⟨X, hX⟩ : ∃ X, delX D nm v = X := ⟨_, rfl⟩
  rw [hE, hD', hX]
  have hal0 := (Below.refl w.heap.size w).alloc (Nat.le_refl _) (.cells #[.int .i64 v.k, .int .i64 v.n, .string v.s] 28)
  have hkb := Blk.new w #[.int .i64 v.k, .int .i64 v.n, .string v.s] 28
  obtain ⟨W0, hW0⟩ : ∃ W0, w.alloc (.cells #[.int .i64 v.k, .int .i64 v.n, .string v.s] 28) = W0 := ⟨_, rfl⟩
  rw [hW0] at hal0 hkb
  have hd0 := hd.below hal0
  have HD := hide hd
  have Hal0 := hide hal0
  have Hkb := hide hkb
  cases hf : findT D nm 0 with
  | none =>
    have h60 : E = 60 := by rw [← hE, delE, hf]
    have hDD : D' = D := by rw [← hD', delD, hE, h60]; rfl
    subst h60 hDD
    have hfn := find_none_ B0 db sb L D' nm W0 hd0 hnm hf
    have Hfn := hide hfn
    clear hfn hE hD' hX hf hd hd0 hal0 hkb
    go_enter Tryz.func23, Tryz.ntmps23
    go_wp2_with fail
    refine Hfn.out.mono ?_
    rintro e w1 ⟨rfl, hb1⟩
    have Hb1 := hide (below_then Hal0.out Hal0.out.size hb1)
    clear hb1 Hfn
    unfold zTab
    go_wp2_with fail
    go_ret
    exact OpPost.refused HD.out rfl (Hb1.out.alloc Hb1.out.size _)
  | some p =>
    obtain ⟨i, T⟩ := p
    obtain ⟨hT, rfl⟩ := findT_at hf
    have hs := hd.ok.right i T hT
    have hfs := find_some_ B0 db sb L D T.s.name i T W0 hd0 hf
    have hEE : E = HeldE T v := by rw [← hE, delE, hf]; rfl
    have Hfs := hide hfs
    have HT := hide hT
    have Hs := hide hs
    have Hf := hide hf
    have HE := hide hE
    have HD' := hide hD'
    have HX := hide hX
    have HEE := hide hEE
    clear hfs hT hs hf hE hD' hX hd hd0 hal0 hkb hEE
    go_enter Tryz.func23, Tryz.ntmps23
    go_wp2_with fail
    refine Hfs.out.mono ?_
    rintro e w1 ⟨tv, rfl, hts, hb1⟩
    have hts' := hts
    obtain ⟨CA, cc, XA, xc, rfl, k1, k2, k3, k4⟩ := hts
    have hal := (Below.refl w1.heap.size w1).alloc (Nat.le_refl _) (.cells #[.pointer (some ⟨db, 0, none⟩), .int .u8 (i : Nat), .string T.s.name, .slice CA T.s.cols.length cc, .slice XA T.s.ixs.length xc] 113)
    have hbl := Blk.new w1 #[.pointer (some ⟨db, 0, none⟩), .int .u8 (i : Nat), .string T.s.name, .slice CA T.s.cols.length cc, .slice XA T.s.ixs.length xc] 113
    have hkb := (Hkb.out.below hb1).below hal
    have m0 := hkb.c 0 (v := .int .i64 v.k) rfl
    have m1 := hkb.c 1 (v := .int .i64 v.n) rfl
    have m2 := hkb.c 2 (v := .string v.s) rfl
    have hbW := below_chain (below_chain Hal0.out hb1) hal
    have hheld := held_any B0 db sb L D i T _ v hvw hvs (w1.alloc (.cells #[.pointer (some ⟨db, 0, none⟩), .int .u8 (i : Nat), .string T.s.name, .slice CA T.s.cols.length cc, .slice XA T.s.ixs.length xc] 113)) (HD.out.below hbW) HT.out (hts'.v.below hal)
    have Hheld := hide hheld
    have HBL := hide hbl
    have HbW := hide hbW
    have HtsW := hide (hts'.below hal)
    clear hheld hbl hbW hal hb1 hts' k1 k2 k3 k4 Hfs hkb
    go_wp2_with fail
    clear hW0
    by_cases hE0 : HeldE T v = 0
    rotate_left
    · have hg : Calls Tryz.prog 73 _ _ (fun e w' => e = .returned (.tuple #[.slice none 0 0, .int .i64 (HeldE T v)]) ∧ Below _ _ w') := Hheld.out.mono fun e w' h => by
        have h1 := h.1
        rw [HeldP, if_neg hE0] at h1
        exact ⟨h1, h.2⟩
      refine hg.mono ?_
      rintro e w2 ⟨rfl, hb2⟩
      rw [← HEE.out] at hE0 ⊢
      have hDD : D' = D := by rw [← HD'.out, delD, HE.out, if_neg hE0]
      subst hDD
      have hbw2 := hide (below_then HbW.out HbW.out.size hb2)
      have t1 : (E != 0) = true := by simpa using hE0
      have HE0 := hide hE0
      clear hg hb2 Hheld m0 m1 m2 hE0
      go_wp2_with fail
      go_ret
      exact OpPost.refused HD.out rfl hbw2.out HE0.out
    have hg : Calls Tryz.prog 73 _ _ (fun e w' => (∃ r A c, wasT T v = some r ∧ e = .returned (.tuple #[.slice A r.length c, .int .i64 0]) ∧ w'.ownsRow (w1.alloc (.cells #[.pointer (some ⟨db, 0, none⟩), .int .u8 (i : Nat), .string T.s.name, .slice CA T.s.cols.length cc, .slice XA T.s.ixs.length xc] 113)).heap.size 28 3 (.slice A r.length c) r.length (rowCells r)) ∧ Below _ _ w') := Hheld.out.mono fun e w' h => by
      have h1 := h.1
      rw [HeldP, if_pos hE0] at h1
      exact ⟨h1, h.2⟩
    refine hg.mono ?_
    rintro e w2 ⟨⟨r, A2, c2, hw, rfl, hown2⟩, hb2⟩
    have h0 : E = 0 := by rw [HEE.out]; exact hE0
    subst h0
    have hDD : D' = D.set i (layT T v none) := by rw [← HD'.out, delD, HE.out, if_pos rfl, putD, Hf.out]
    subst hDD
    have hbw2 := below_then HbW.out HbW.out.size hb2
    have hbl2 := HBL.out.below hb2
    have q0 := hbl2.c 0 (v := .pointer (some ⟨db, 0, none⟩)) rfl
    have q1 := hbl2.c 1 (v := .int .u8 (i : Nat)) rfl
    have q2 := hbl2.c 2 (v := .string T.s.name) rfl
    have q3 := hbl2.c 3 (v := .slice CA T.s.cols.length cc) rfl
    have q4 := hbl2.c 4 (v := .slice XA T.s.ixs.length xc) rfl
    have hsz := size_any B0 db sb L D i T _ w2 (HD.out.below hbw2) HT.out (HtsW.out.v.below hb2)
    have hrs : RdS B0 w2 3 A2 r.length (rowCells r) := RdS.of_own hown2 (by decide) (by decide)
    have Hsz := hide hsz
    have Hbw2 := hide hbw2
    have Hbl2 := hide hbl2
    have Hts2 := hide (HtsW.out.below hb2)
    have Hrs := hide hrs
    have Hw := hide hw
    have hwm := wasT_some hw
    have Hwm := hide hwm
    clear hg hb2 hown2 hw hbw2 hbl2 hsz hrs Hheld m0 m1 m2 HBL HtsW HbW hwm
    go_wp2_with fail
    refine Hsz.out.mono ?_
    rintro e w5 ⟨rfl, hb5⟩
    have Hb5 := hide (below_then Hbw2.out Hbw2.out.size hb5)
    have hbl5 := Hbl2.out.below hb5
    have u0 := hbl5.c 0 (v := .pointer (some ⟨db, 0, none⟩)) rfl
    have u1 := hbl5.c 1 (v := .int .u8 (i : Nat)) rfl
    have u2 := hbl5.c 2 (v := .string T.s.name) rfl
    have u3 := hbl5.c 3 (v := .slice CA T.s.cols.length cc) rfl
    have u4 := hbl5.c 4 (v := .slice XA T.s.ixs.length xc) rfl
    have Hbl5 := hide hbl5
    have Hts5 := hide (Hts2.out.below hb5)
    have hd5 := HD.out.below Hb5.out
    have hi4 := hd5.ok.lt4 HT.out
    have hB5 : B0 ≤ w5.heap.size := Nat.le_trans hB0 Hb5.out.size
    have hro := hd5.ok.fit i T HT.out r Hwm.out.1
    have hlay := lay_del B0 db sb L i T.s _ A2 r.length c2 r w5 hd5.d hd5.tabs Hts5.out (by omega) Hs.out (Hrs.out.below hb5) rfl hro (by omega) hB5 hd5.b0
    rw [Hwm.out.2] at hlay
    have Hlay := hide hlay
    have Hd5 := hide hd5
    have Hro := hide hro
    clear hlay hd5 hbl5 hb5 q0 q1 q2 q3 q4 Hsz hro
    go_wp2_with fail
    refine Hlay.out.mono ?_
    rintro e w6 ⟨rfl, hd6, hu6⟩
    have hsaf := Hbl5.out.safe (by decide) (by decide) B0
    have x0 := u0.upd hsaf Hd5.out.d hu6
    have x1 := u1.upd hsaf Hd5.out.d hu6
    have x2 := u2.upd hsaf Hd5.out.d hu6
    have x3 := u3.upd hsaf Hd5.out.d hu6
    have x4 := u4.upd hsaf Hd5.out.d hu6
    have hLl := layC_len i T.s.ixs v none (some r)
    have hx3 := (right_facts Hs.out).x3
    have h64 := Hd5.out.ok.n64 i T HT.out
    have hlenR : (layT T v none).rows.length + 1 = T.rows.length := by
      have := filter_len v T.rows (HD.out.ok.keys i T HT.out) r Hw.out
      simpa [layT] using this
    have hcnt := count_any B0 db sb (L ++ layC i T.s.ixs v none (some r)) D i T.s _ (layT T v none).rows.length w6 hd6 (Hts5.out.upd Hd5.out.d hu6).v (by omega) (by omega) (by rw [List.length_append]; omega) (Nat.le_trans hB5 hu6.size)
    rw [show (((layT T v none).rows.length : Nat) : Int) = (T.rows.length : Int) - 1 by omega] at hcnt
    have Hcnt := hide hcnt
    have Hd6 := hide hd6
    have Hu6 := hide hu6
    have HlenR := hide hlenR
    clear hcnt hd6 hu6 hsaf u0 u1 u2 u3 u4 Hlay hlenR
    go_wp2_with fail
    refine Hcnt.out.mono ?_
    rintro e w7 ⟨rfl, hd7, hu7⟩
    have Hd7 := hide hd7
    have Hu7 := hide hu7
    clear hd7 hu7 x0 x1 x2 x3 x4 Hcnt
    go_wp2_with fail
    go_ret
    have hd0 := HD.out
    have hwn := Hw.out
    have hrow2 : ∀ r', (none : Option (List V)) = some r' → RowOf T.s r' ∧ col r' 0 = v := fun r' hr => by cases hr
    have hvok : okV v ∧ (keyV v).length ≤ 28 := by
      have := Hro.out.col Hs.out 0
      rw [Hwm.out.2] at this
      exact this
    have hD7 := Hd7.out
    have hrep := (hd0.rep.lay hd0.ok HT.out hvok.1 hrow2).cnt i (layT T v none).rows.length
    rw [hwn] at hrep
    have hrn := RepN.lay (row := none) (v0 := v) hd0.cnt hd0.ok HT.out (some r)
    have hok := hd0.ok.lay HT.out hrow2 (by have := HlenR.out; omega)
    have hu : Upd db w w7 := ((Upd.of_below Hb5.out hd0.d.lt).trans Hu6.out).trans Hu7.out
    refine ⟨_, rfl, ⟨hD7, hrep, hrn, hok, ?_, tabs_upd hd0.tabs hd0.d hu hd0.b0, hd0.b0⟩, ?_, by rw [if_pos rfl, ← HX.out, delX, Hf.out]; simp only [hwn, List.append_assoc], hu⟩
    · intro x hx
      simp only [List.mem_append, List.mem_singleton] at hx
      rcases hx with (hx | hx) | rfl
      · exact hd0.small x hx
      · exact layC_small Hs.out hvok.2 (fun r hr => by cases hr) (fun r' hr => by injection hr with hr; subst hr; exact Hro.out) x hx
      exact cntC_small _ _
    simp only [List.length_append, List.length_singleton]; omega
end Go.Proofs.YtekokogmnhlchaaGreatDoor
