import Derived.Test.YtekokogmnhlchaaGreatDoorC4
import Derived.Test.YtekokogmnhlchaaGreatDoorB1
import Derived.Test.YtekokogmnhlchaaGreatDoorC1
import Derived.Test.YtekokogmnhlchaaGreatDoorA6
import Derived.Test.YtekokogmnhlchaaGreatDoorA4
set_option linter.unusedSimpArgs false
set_option linter.unusedVariables false
set_option linter.unusedSectionVars false
namespace Go.Proofs.YtekokogmnhlchaaGreatDoor
open Go.RowKit
def hurtX (T : Tb) (row : List V) (x : Ix) : Bool := x.uniq && (decide ((col row x.col.toNat).k ≠ 0) && T.rows.any fun r => decide (col r 0 ≠ col row 0) && decide (col r x.col.toNat = col row x.col.toNat))
theorem hurtB_any (T : Tb) (row : List V) : hurtB T row = T.s.ixs.any (hurtX T row) := rfl
theorem getC_keylen {L : List Chg} (hs : ∀ x ∈ L, x.key.length ≤ 60) {sp : Int} {k v : List UInt8} (h : getC L sp k = some v) : k.length ≤ 60 := by
  unfold getC at h
  cases hl : lastC L sp k with
  | none => rw [hl] at h; cases h
  | some c =>
    have hm : c ∈ L := by
      have := List.mem_of_find?_eq_some hl
      simpa using this
    have hk := List.find?_some hl
    simp only [Bool.and_eq_true, decide_eq_true_eq] at hk
    rw [← hk.2]
    exact hs c hm
theorem hurtX_of {T : Tb} {row : List V} {x : Ix} (hu : x.uniq = true) (hk : (col row x.col.toNat).k ≠ 0) : hurtX T row x = true ↔ ∃ r ∈ T.rows, col r 0 ≠ col row 0 ∧ col r x.col.toNat = col row x.col.toNat := by
  simp [hurtX, hu, hk]
theorem RB.take_ {w : World} {A : Option Addr} {n : Nat} {x y : List UInt8} (h : RB w A n (x ++ y)) (m : Nat) (hm : x.length = m) : RB w A m x := by
  have hl := RB.len h
  rw [List.length_append] at hl
  refine ⟨by simp [hm], ?_⟩
  rcases h.2 with h0 | ⟨b, o, hA, hc⟩
  · exact .inl (by omega)
  refine .inr ⟨b, o, hA, fun j hj => ?_⟩
  rw [bys_length] at hj
  rw [hc j (by rw [bys_length, List.length_append]; omega), bys_append, List.getElem?_append_left (by rw [bys_length]; exact hj)]
theorem any_take_succ {α : Type} (p : α → Bool) (l : List α) (k : Nat) (hk : k < l.length) (h1 : (l.take k).any p = false) (h2 : p l[k] = false) : (l.take (k + 1)).any p = false := by
  rw [List.take_succ_eq_append_getElem hk, List.any_append, h1]; simp [h2]
theorem any_of_at {α : Type} (p : α → Bool) (l : List α) (k : Nat) (hk : k < l.length) (h2 : p l[k] = true) : l.any p = true := List.any_eq_true.2 ⟨_, List.getElem_mem hk, h2⟩
set_option maxHeartbeats 3200000 in
set_option maxRecDepth 1000000 in
theorem free_any (B0 db sb : Nat) (L : List Chg) (D : List Tb) (i : Nat) (T : Tb) (tv : Value) (A : Option Addr) (n c : Nat) (row : List V) (w : World) (hd : DbAt B0 w db sb L D) (hL : L.length ≤ 100000) (hT : D[i]? = some T) (ht : TabV db i T.s w tv) (hrow : Rd w 3 A n (rowCells row)) (hn : row.length = n) (hro : RowOf T.s row) :
    Calls Tryz.prog 63 #[tv, .slice A n c] w fun e w' => e = .returned (.int .i64 (cond (hurtB T row) 64 0)) ∧ Below w.heap.size w w' := by
  have ht' := ht
  obtain ⟨CA, cc, XA, xcc, rfl, hsv⟩ := ht
  obtain ⟨_, _, _, _, he, _, _, _, hX⟩ := hsv
  injection he with he
  have he3 := congrArg (fun a => a[2]?) he
  simp at he3
  obtain ⟨rfl, rfl⟩ := he3
  have hs := hd.ok.right i T hT
  have hx3 : T.s.ixs.length ≤ 3 := (right_facts hs).x3
  have hf := right_facts hs
  have hcl := fits_len hro.fit
  have hpos := hro.pos hs
  obtain ⟨b, o, rfl, _⟩ := hrow.some_ (by omega)
  obtain ⟨W0, hW0⟩ : ∃ W0, w.alloc (.cells #[.pointer (some ⟨db, 0, none⟩), .int .u8 (i : Nat), .string T.s.name, .slice CA T.s.cols.length cc, .slice XA T.s.ixs.length xcc] 113) = W0 := ⟨_, rfl⟩
  have hbl := Blk.new w #[.pointer (some ⟨db, 0, none⟩), .int .u8 (i : Nat), .string T.s.name, .slice CA T.s.cols.length cc, .slice XA T.s.ixs.length xcc] 113
  have hb1 := (Below.refl w.heap.size w).alloc (Nat.le_refl _) (.cells #[.pointer (some ⟨db, 0, none⟩), .int .u8 (i : Nat), .string T.s.name, .slice CA T.s.cols.length cc, .slice XA T.s.ixs.length xcc] 113)
  rw [hW0] at hbl hb1
  have p4 := hbl.c 4 (v := .slice XA T.s.ixs.length xcc) rfl
  have HBL := hide hbl
  have Hb1 := hide hb1
  have Hd := hide hd
  have HT := hide hT
  have Ht := hide ht'
  have Hrow := hide hrow
  have HX := hide hX
  have Hs := hide hs
  have Hf := hide hf
  have Hro := hide hro
  have hi4 := hd.ok.lt4 hT
  obtain ⟨xn, hxn⟩ : ∃ xn, T.s.ixs.length = xn := ⟨_, rfl⟩
  have Hxn := hide hxn
  obtain ⟨R, hR⟩ : ∃ R, hurtB T row = R := ⟨_, rfl⟩
  have HR := hide hR
  rw [hR]
  clear hd hT ht' hrow hX hs hf hro hbl hb1 he hR hxn
  go_enter Tryz.func63, Tryz.ntmps63
  go_wp2_with fail
  clear hW0
  go_loopw [17] (fun ii wr => ∃ k : Nat, k ≤ T.s.ixs.length ∧ ii = .int .i64 k ∧ Hid ((T.s.ixs.take k).any (hurtX T row) = false) ∧ Hid (Below W0.heap.size W0 wr)) (fun ii _ => T.s.ixs.length - (intOf ii).toNat)
  case atStart => exact ⟨0, Nat.zero_le _, rfl, hide rfl, hide (Below.refl _ _)⟩
  case round =>
    clear p4
    obtain ⟨k, hk, rfl, HN, HB⟩ := hrel
    by_cases hlt : k < T.s.ixs.length
    rotate_left
    · have hke : T.s.ixs.length = k := by omega
      have hR0 : R = false := by
        have h1 := HN.out
        rw [List.take_of_length_le (by omega)] at h1
        rw [← HR.out, hurtB_any]; exact h1
      subst hR0
      go_wp2_with fail
      go_ret
      exact ⟨rfl, below_then Hb1.out Hb1.out.size HB.out⟩
    obtain ⟨bx, ox, rfl, hc⟩ := Rd.struct Ix.cells_len T.s.ixs rfl ((HX.out.below Hb1.out).below HB.out) k hlt
    obtain ⟨x, hx⟩ : ∃ x, T.s.ixs[k] = x := ⟨_, rfl⟩
    have hm : x ∈ T.s.ixs := by rw [← hx]; exact List.getElem_mem _
    have hxf := Hf.out.xs x hm
    have hhi := hurt_iff Hd.out.rep Hd.out.ok HT.out hm Hro.out
    have hskip : hurtX T row x = false → (T.s.ixs.take (k + 1)).any (hurtX T row) = false := fun h => any_take_succ _ _ k hlt HN.out (by rw [hx]; exact h)
    have hhurt : hurtX T row x = true → R = true := fun h => by rw [← HR.out, hurtB_any]; exact any_of_at _ _ k hlt (by rw [hx]; exact h)
    rw [hx] at hc
    obtain ⟨xc', xu⟩ := x
    simp only at hxf
    obtain ⟨xc, rfl⟩ := Int.eq_ofNat_of_zero_le (show 0 ≤ xc' by omega)
    have e0 : C wr bx (ox + k * 2) (.int .i64 (xc : Nat)) := hc 0 (by omega)
    have e1 : C wr bx (ox + k * 2 + 1) (.bool xu) := hc 1 (by omega)
    have hki : (k : Int) < (T.s.ixs.length : Int) := by omega
    have hxn' : xc < row.length := by rw [hcl]; omega
    have hbw := below_chain Hb1.out HB.out
    have hrw := Hrow.out.below hbw
    obtain ⟨b', o', he, a0, a1, a2⟩ := Row.cells (A := some ⟨b, o, none⟩) (l := row) (by rw [hn]; exact hrw) xc hxn'
    injection he with he
    injection he with he1 he2 _
    subst he1 he2
    obtain ⟨b', o', he, z0, z1, z2⟩ := Row.cells (A := some ⟨b, o, none⟩) (l := row) (by rw [hn]; exact hrw) 0 hpos
    injection he with he
    injection he with he1 he2 _
    subst he1 he2
    have ec : col row xc = row[xc] := by rw [col, List.getD_eq_getElem?_getD, List.getElem?_eq_getElem hxn']; rfl
    have ec0 : col row 0 = row[0] := by rw [col, List.getD_eq_getElem?_getD, List.getElem?_eq_getElem hpos]; rfl
    obtain ⟨u, hu⟩ : ∃ u, col row xc = u := ⟨_, rfl⟩
    obtain ⟨v, hv⟩ : ∃ v, col row 0 = v := ⟨_, rfl⟩
    rw [← ec, hu] at a0 a1 a2
    rw [← ec0, hv, Nat.zero_mul, Nat.add_zero] at z0 z1 z2
    have hal := (Below.refl wr.heap.size wr).alloc (Nat.le_refl _) (.cells #[.int .i64 (xc : Nat), .bool xu] 68)
    have n0 := C.new wr #[.int .i64 (xc : Nat), .bool xu] 68 0 (v := .int .i64 (xc : Nat)) rfl
    have n1 := C.new wr #[.int .i64 (xc : Nat), .bool xu] 68 1 (v := .bool xu) rfl
    have y0 := a0.below hal
    have hxi : (xc : Int) < (n : Int) := by omega
    have hxin : xc < n := by omega
    have HB1 := hide (below_chain HB.out hal)
    have Hskip := hide hskip
    have Hhurt := hide hhurt
    have Hhi := hide hhi
    cases xu
    · have hno : hurtX T row ⟨(xc : Nat), false⟩ = false := rfl
      have HN2 := hide (Hskip.out hno)
      clear hc hx hm hhi hskip hhurt hbw hrw ec ec0 hu hv hal hno z0 z1 z2
      go_wp2_with fail
      exact ⟨⟨k + 1, hlt, by go_num, HN2, HB1⟩, by simp [intOf]; omega⟩
    by_cases huk : u.k = 0
    · have hno : hurtX T row ⟨(xc : Nat), true⟩ = false := by simp [hurtX, hu, huk]
      have HN2 := hide (Hskip.out hno)
      rw [huk] at y0
      clear hc hx hm hhi hskip hhurt hbw hrw ec ec0 hu hv hal hno z0 z1 z2 a0 a1 a2
      go_wp2_with fail
      exact ⟨⟨k + 1, hlt, by go_num, HN2, HB1⟩, by simp [intOf]; omega⟩
    have hukb : (u.k == 0) = false := by simpa using huk
    obtain ⟨W, hW⟩ : ∃ W, wr.alloc (.cells #[.int .i64 (xc : Nat), .bool true] 68) = W := ⟨_, rfl⟩
    rw [hW] at hal n0 n1 y0
    have hbW : Below w.heap.size w W := below_chain hbw hal
    have hrv := Hro.out.ok Hs.out
    have hent := entry_any db i T.s _ xc true (some ⟨b, o, none⟩) n c row W (Hd.out.tabs.below hbW) (Ht.out.below hbW) (by omega) (hrw.below hal) hn hxin (by have := Hf.out.c3; omega) hrv (fun v hv => by have := keyV_len (fits_val Hs.out Hro.out.fit v hv).1 (fits_val Hs.out Hro.out.fit v hv).2; omega)
    obtain ⟨ul, hul⟩ : ∃ ul, (keyV u).length = ul := ⟨_, rfl⟩
    obtain ⟨vl, hvl⟩ : ∃ vl, (keyV v).length = vl := ⟨_, rfl⟩
    have hu28 := (Hro.out.col Hs.out xc).2
    have hv28 := (Hro.out.col Hs.out 0).2
    have hvok := (Hro.out.col Hs.out 0).1
    rw [hu, hul] at hu28
    rw [hv, hvl] at hv28
    rw [hv] at hvok
    have hlo : loK i ⟨(xc : Nat), true⟩ row = UInt8.ofNat i :: UInt8.ofNat xc :: keyV u := by rw [← hu]; rfl
    have hlol : (loK i ⟨(xc : Nat), true⟩ row).length = 2 + ul := by rw [hlo]; simp [hul]; omega
    have hol : (entK i ⟨(xc : Nat), true⟩ row).length = 2 + ul + vl := by rw [entK_lo, List.length_append, hlol, hv, hvl]
    rw [hol] at hent
    have q := (HBL.out.below HB.out).below hal
    have t0 := q.c 0 (v := .pointer (some ⟨db, 0, none⟩)) rfl
    have t1 := q.c 1 (v := .int .u8 (i : Nat)) rfl
    have t2 := q.c 2 (v := .string T.s.name) rfl
    have t3 := q.c 3 (v := .slice CA T.s.cols.length cc) rfl
    have t4 := q.c 4 (v := .slice (some ⟨bx, ox, none⟩) T.s.ixs.length xcc) rfl
    have Hent := hide hent
    have HbW := hide hbW
    have Hlol := hide hlol
    have Hq := hide q
    have HZ0 := hide (z0.below hal)
    have HZ1 := hide (z1.below hal)
    have HZ2 := hide (z2.below hal)
    have HBW := hide (below_chain HB.out hal)
    have Hv := hide hv
    have Hu := hide hu
    have hval : Hid (∀ W1, Below W.heap.size W W1 → Calls Tryz.prog 115 #[v.val] W1 fun e w' => ∃ A c, e = .returned (.slice A vl c) ∧ w'.ownsRow W1.heap.size 5 1 (.slice A vl c) vl (bys (keyV v)) ∧ Below W1.heap.size W1 w') := hide fun W1 hb => by
      have := value_any v hvok W1 (Hd.out.tabs.below (below_then hbW hbW.size hb))
      rw [hvl] at this
      exact this
    clear hc hx hm hhi hskip hhurt hbw hrw ec ec0 hu hv hal z0 z1 z2 a0 a1 a2 hent hbW hlol q hol hlo hul hvl hrv hvok
    go_wp2_with fail
    clear hW
    refine Hent.out.mono ?_
    rintro e w1 ⟨A1, c1, rfl, hown1, hb1⟩
    have s0 := HZ0.out.below hb1
    have s1 := HZ1.out.below hb1
    have s2 := HZ2.out.below hb1
    have hnc1 : 2 + ul + vl ≤ c1 := by
      obtain ⟨_, _, hv6, h6, _⟩ := own_form hown1
      injection hv6 with _ _ hv6
      omega
    have hrE := Rd.of_own hown1
    have hrL : RB w1 A1 (2 + ul) (loK i ⟨(xc : Nat), true⟩ row) := RB.take_ (y := keyV (col row 0)) hrE (2 + ul) Hlol.out
    have HrE := hide hrE
    have HrL := hide hrL
    have Hb1' := hide hb1
    have hsub : (((2 + ul + vl : Nat) : Int) - (vl : Int)) = ((2 + ul : Nat) : Int) := by omega
    have hn0 : 0 < n := by omega
    clear hown1 hrE hrL hb1 Hent
    go_wp2_with fail
    refine (hval.out w1 Hb1'.out).mono ?_
    rintro e w2 ⟨A2, c2, rfl, _, hb2⟩
    have Hb2 := hide (below_chain Hb1'.out hb2)
    have HrE2 := hide (HrE.out.below hb2)
    have HrL2 := hide (HrL.out.below hb2)
    have hle1 : 2 + ul ≤ c1 := by omega
    have hle2 : 2 + ul ≤ 2 + ul + vl := by omega
    clear hb2 HrE HrL s0 s1 s2 Hb1' hval
    go_wp2_with fail
    have Hq2 := hide ((Hq.out.below Hb2.out))
    have k0 := Hq2.out.c 0 (v := .pointer (some ⟨db, 0, none⟩)) rfl
    have hlt0 : w.heap.size < w2.heap.size := Hq2.out.lt
    have hbw2 := hide (below_then HbW.out HbW.out.size Hb2.out)
    have HRng : Hid (∀ W5 A5 c5, Below w2.heap.size w2 W5 → RB W5 A5 (2 + ul + 1) (loK i ⟨(xc : Nat), true⟩ row ++ [255]) → Calls Tryz.prog 71 #[.pointer (some ⟨db, 0, none⟩), .int .i64 2, .slice A1 (2 + ul) c1, .slice A5 (2 + ul + 1) c5, .int .i64 2] W5 (RangePost L 2 (loK i ⟨(xc : Nat), true⟩ row) (loK i ⟨(xc : Nat), true⟩ row ++ [255]) 2 W5)) := hide fun W5 A5 c5 hb hr =>
      drange_any B0 db sb L 2 A1 A5 (2 + ul) c1 (2 + ul + 1) c5 _ _ 2 W5 (Hd.out.d.below (below_then hbw2.out hbw2.out.size hb)) (HrL2.out.below hb) hr (by omega) (by omega) (by omega) (by omega) hL (fun x hx => ⟨(Hd.out.small x hx).1, (Hd.out.small x hx).2.1⟩) (by omega)
    have hBx := hide (((Below.refl w2.heap.size w2).alloc (Nat.le_refl _) (.cells #[.int .u8 255] 5)).drew)
    have Hlit := hide (Rd.lit w2 #[.int .u8 255] 5 1 1 _ rfl rfl)
    have HLx : Hid (RB (w2.alloc (.cells #[.int .u8 255] 5)).drew A1 (2 + ul) (loK i ⟨(xc : Nat), true⟩ row)) := hide (HrL2.out.below hBx.out)
    have kx := k0.below hBx.out
    go_region_held3 (fun w' => w'.cell? ⟨w.heap.size, 0, none⟩ = some (.pointer (some ⟨db, 0, none⟩)))
      ((first
        | (go_keep; done)
        | exact k0
        | exact kx
        | exact t30
        | exact t30.alloc _
        | exact t50
        | exact t60
        | fail))
      ((first
        | (go_at_call 70; refine (bclone2 A1 (2 + ul) c1 (loK i ⟨(xc : Nat), true⟩ row) _ HrL2.out.drew (by omega)).mono ?_; rintro e w3 ⟨A3, c3, rfl, hown3, hb3⟩; have hb3' : Below w2.heap.size w2 w3 := undrewd hb3; have hown3' : w3.ownsRow w2.heap.size 5 1 (.slice A3 (2 + ul) c3) (2 + ul) (bys (loK i ⟨(xc : Nat), true⟩ row)) := hown3; have t30 := k0.below hb3')
        | (go_at_call 70; refine (bclone2 A1 (2 + ul) c1 (loK i ⟨(xc : Nat), true⟩ row) _ HLx.out (by omega)).mono ?_; rintro e w3 ⟨A3, c3, rfl, hown3, hb3⟩; have hb3' : Below w2.heap.size w2 w3 := below_chain hBx.out hb3; have hlit3 := Rd.below (w := (w2.alloc (.cells #[.int .u8 255] 5)).drew) Hlit.out hb3; have hown3' : w3.ownsRow w2.heap.size 5 1 (.slice A3 (2 + ul) c3) (2 + ul) (bys (loK i ⟨(xc : Nat), true⟩ row)) := own_mono hown3 hBx.out.size; have t30 := k0.below hb3')
        | (refine step_app (base := w2.heap.size) (news := [.int .u8 255]) u8T (by rfl) (by rfl) (by first | exact hown3' | exact hown3'.alloc _) (by rfl) (by first | exact Rd.of_own (World.ownsRow_lit (base := 0) w3 #[.int .u8 255] 1 (Nat.zero_le _) (by decide) rfl) | exact hlit3) (by rfl) (by simp [Value.oneCell']) (by omega) (by omega) (by first | exact hb3'.size | exact (hb3'.alloc hb3'.size _).size) ?_; intro A5 c5 w5 hown5 hb5 hg5 hat5; have hb5' : Below w2.heap.size w2 w5 := (by first | exact hb3'.trans hb5 | exact (hb3'.alloc hb3'.size _).trans hb5); have t50 := k0.below hb5')
        | (go_at_call 71; refine (HRng.out w5 A5 c5 hb5' (by rw [RB, bys_append]; exact Rd.of_own hown5)).mono ?_; rintro e w6 ⟨l, A6, c6, rfl, hrl, hrd6, hpa6, hb6⟩; have t60 := t50.below hb6)
        | fail))
    all_goals
      have hX1 := hurtX_of (T := T) (row := row) (x := ⟨(xc : Nat), true⟩) rfl (by show (col row xc).k ≠ 0; rw [Hu.out]; exact huk)
      have hyes : (∃ p ∈ l.take 2, p.key ≠ entK i ⟨(xc : Nat), true⟩ row) → hurtX T row ⟨(xc : Nat), true⟩ = true := fun ⟨p, hp, hne⟩ =>
        hX1.2 (Hhi.out.1 ⟨p.key, p.val, ((hrl.mem _ _).1 (List.mem_map.2 ⟨p, List.mem_of_mem_take hp, rfl⟩)).1, ((hrl.mem _ _).1 (List.mem_map.2 ⟨p, List.mem_of_mem_take hp, rfl⟩)).2, hne⟩)
      have hno : ¬ (∃ p ∈ l.take 2, p.key ≠ entK i ⟨(xc : Nat), true⟩ row) → hurtX T row ⟨(xc : Nat), true⟩ = false := fun hn => by
        refine Bool.eq_false_iff.2 fun ht => hn ?_
        obtain ⟨k', v', hg, hb, hne⟩ := Hhi.out.2 (hX1.1 ht)
        have hm := (hrl.mem k' v').2 ⟨hg, hb⟩
        obtain ⟨q, hq, hqn⟩ := (take2_other hrl.srt (entK i ⟨(xc : Nat), true⟩ row)).2 ⟨(k', v'), hm, hne⟩
        rw [← List.map_take] at hq
        obtain ⟨p, hp, rfl⟩ := List.mem_map.1 hq
        exact ⟨p, hp, hqn⟩
      have hBel6 := below_then hb5' hb5'.size hb6
      obtain ⟨mn, hmn⟩ : ∃ mn, min l.length 2 = mn := ⟨_, rfl⟩
      obtain ⟨pl, hpl⟩ : ∃ pl, l.take 2 = pl := ⟨_, rfl⟩
      have hpll : pl.length = mn := by rw [← hpl, ← hmn, List.length_take]; omega
      have hppl : ∀ p ∈ pl, PrAt w6 p := fun p hp => hpa6 p (List.mem_of_mem_take (by rw [hpl]; exact hp))
      rw [hpl] at hrd6 hyes hno
      rw [hmn] at hrd6 ⊢
      have hmn2 : mn ≤ 2 := by omega
      have hlen : ∀ p ∈ pl, p.key.length ≤ 60 := fun p hp => getC_keylen (fun x hx => (Hd.out.small x hx).2.1) ((hrl.mem p.key p.val).1 (List.mem_map.2 ⟨p, List.mem_of_mem_take (by rw [hpl]; exact hp), rfl⟩)).1
      have Hlen := hide hlen
      clear hlen
      have Hyes := hide hyes
      have Hno := hide hno
      have HBel6 := hide hBel6
      have Hrd6 := hide hrd6
      have Hppl := hide hppl
      have Hpll := hide hpll
      have HrE6 := hide (HrE2.out.below hBel6)
      clear hX1 hyes hno hBel6 hmn hpl hpll hppl hrd6 hpa6 hrl hb6 t60 t50 t30 hb5' hown5 hb5 hg5 hat5 hown3 hown3' hb3 hb3' kx k0 HRng Hhi HrE2 HrL2
      go_simp
      go_wp2_with fail
      go_loopw [63] (fun jj wq => ∃ j : Nat, j ≤ mn ∧ jj = .int .i64 j ∧ Hid (∀ p ∈ pl.take j, p.key = entK i ⟨(xc : Nat), true⟩ row) ∧ Hid (Below w6.heap.size w6 wq)) (fun jj _ => mn - (intOf jj).toNat)
      case atStart => exact ⟨0, Nat.zero_le _, rfl, hide (by simp), hide (Below.refl _ _)⟩
      case round =>
        obtain ⟨j, hj, rfl, HE, HBq⟩ := hrel
        by_cases hjl : j < mn
        rotate_left
        · have hje : mn = j := by omega
          subst hje
          have hall : pl.take mn = pl := List.take_of_length_le (by have := Hpll.out; omega)
          have hX0 : hurtX T row ⟨(xc : Nat), true⟩ = false := Hno.out (fun ⟨p, hp, hne⟩ => hne (HE.out p (by rw [hall]; exact hp)))
          have HN2 := hide (Hskip.out hX0)
          have HB7 := hide (below_chain HBW.out (below_chain (below_chain Hb2.out HBel6.out) HBq.out))
          clear hall hX0
          go_wp2_with fail
          exact ⟨⟨k + 1, hlt, by go_num, HN2, HB7⟩, by simp [intOf]; omega⟩
        have hjp : j < pl.length := by have := Hpll.out; omega
        obtain ⟨pb, po, rfl, hc⟩ := Rd.struct (prCells_len 2) pl Hpll.out (Hrd6.out.below HBq.out) j hjp
        obtain ⟨p, hp⟩ : ∃ p, pl[j] = p := ⟨_, rfl⟩
        have hpm : p ∈ pl := by rw [← hp]; exact List.getElem_mem _
        rw [hp] at hc
        obtain ⟨⟨KA, kn, kc, hkv, hk5, _⟩, VA, vn, vc, hvv, _⟩ := (Hppl.out p hpm)
        have htk : pl.take (j + 1) = pl.take j ++ [p] := by rw [List.take_succ_eq_append_getElem hjp, hp]
        have hyes : p.key ≠ entK i ⟨(xc : Nat), true⟩ row → hurtX T row ⟨(xc : Nat), true⟩ = true := fun hne => Hyes.out ⟨p, hpm, hne⟩
        obtain ⟨xk, xv, xkv, xvv⟩ := p
        simp only at hkv hvv hk5 hyes
        subst hkv hvv
        have g0 : C wr pb (po + j * 3) (.int .i64 2) := hc 0 (by omega)
        have g1 : C wr pb (po + j * 3 + 1) (.slice KA kn kc) := hc 1 (by omega)
        have g2 : C wr pb (po + j * 3 + 2) (.slice VA vn vc) := hc 2 (by omega)
        have hal := (Below.refl wr.heap.size wr).alloc (Nat.le_refl _) (.cells #[.int .i64 2, .slice KA kn kc, .slice VA vn vc] 132)
        have m1 := C.new wr #[.int .i64 2, .slice KA kn kc, .slice VA vn vc] 132 1 (v := .slice KA kn kc) rfl
        have hbq := below_chain HBq.out hal
        have hrk := (hk5.below hbq).1
        have hre := HrE6.out.below hbq
        have hknl : kn ≤ 100000000 := by have h1 := Hlen.out _ hpm; have h2 := RB.len hk5.1; simp only at h1; omega
        have heq := beq119 KA A1 kn kc (2 + ul + vl) c1 xk _ _ hrk hre hknl
        have Heq := hide heq
        have Hbq := hide hbq
        have Htk := hide htk
        have hji : (j : Int) < (mn : Int) := by omega
        clear hc hp hpm hk5 hal hbq hrk hre heq htk HBq
        by_cases hxk : xk = entK i ⟨(xc : Nat), true⟩ row
        · have hd1 : decide (xk = entK i ⟨(xc : Nat), true⟩ row) = true := by simp [hxk]
          rw [hd1] at Heq
          clear hd1 hyes
          go_wp2_with fail
          refine Heq.out.mono ?_
          rintro e w7 ⟨rfl, hb7⟩
          have HE2 : Hid (∀ p ∈ pl.take (j + 1), p.key = entK i ⟨(xc : Nat), true⟩ row) := hide fun p hp => by
            rw [Htk.out, List.mem_append, List.mem_singleton] at hp
            rcases hp with hp | rfl
            · exact HE.out p hp
            exact hxk
          have HB7 := hide (below_chain Hbq.out hb7)
          clear hb7 Heq hxk
          go_wp2_with fail
          exact ⟨⟨j + 1, hjl, by go_num, HE2, HB7⟩, by simp [intOf]; omega⟩
        have hd1 : decide (xk = entK i ⟨(xc : Nat), true⟩ row) = false := by simp [hxk]
        rw [hd1] at Heq
        have hRt := Hhurt.out (hyes hxk)
        subst hRt
        clear hd1 hyes
        go_wp2_with fail
        refine Heq.out.mono ?_
        rintro e w7 ⟨rfl, hb7⟩
        have HB7 := hide (below_chain Hbq.out hb7)
        go_wp2_with fail
        go_ret
        exact ⟨rfl, below_then hbw2.out hbw2.out.size (below_chain HBel6.out HB7.out)⟩
theorem tabs_upd {B0 db sb : Nat} {L : List Chg} {w w' : World} (h : Tabs w) (hd : DraftAt B0 w db sb L) (hu : Upd db w w') (h3 : 3 ≤ B0) : Tabs w' :=
  ⟨fun c hc => C.upd (h.1 c hc) (.inl (show (1 : Nat) < B0 by omega)) hd hu, fun i hi => ⟨C.upd (h.2 i hi).1 (.inl (show (2 : Nat) < B0 by omega)) hd hu, C.upd (h.2 i hi).2 (.inl (show (2 : Nat) < B0 by omega)) hd hu⟩⟩
theorem flat_le' (row : List V) (h : ∀ v ∈ row, (keyV v).length ≤ 28) : (row.flatMap keyV).length ≤ 28 * row.length := by
  induction row with
  | nil => simp
  | cons v l ih =>
    have h1 := h v (by simp)
    have h2 := ih fun u hu => h u (by simp [hu])
    simp only [List.flatMap_cons, List.length_append, List.length_cons]
    omega
theorem layIns_len (id : Nat) (row : List V) (l : List Ix) : (l.flatMap (layIx id (some row) none)).length = l.length := by
  induction l with
  | nil => rfl
  | cons x l ih => simp only [List.flatMap_cons, List.length_append, ih, List.length_cons]; simp [layIx]; omega
theorem neqNil (W : World) : (binOp BinOp.neq 33 (.slice none 0 0) (.slice none 0 0)).run Tryz.prog W = .ok (.bool false) W := run_neq_slice_nil_any W 33 28 none 0 0 0 0 Tryz.underlying33
theorem neqSome (a : Addr) (n c : Nat) (W : World) : (binOp BinOp.neq 33 (.slice (some a) n c) (.slice none 0 0)).run Tryz.prog W = .ok (.bool true) W := run_neq_slice_nil_any W 33 28 (some a) n c 0 0 Tryz.underlying33
theorem eqlSome (a : Addr) (n c : Nat) (W : World) : (binOp BinOp.eql 33 (.slice (some a) n c) (.slice none 0 0)).run Tryz.prog W = .ok (.bool false) W := Go.Lib.run_eql_slice_nil (P := Tryz.prog) W 33 28 (some a) n c 0 0 Tryz.underlying33
theorem eqlNil (W : World) : (binOp BinOp.eql 33 (.slice none 0 0) (.slice none 0 0)).run Tryz.prog W = .ok (.bool true) W := Go.Lib.run_eql_slice_nil (P := Tryz.prog) W 33 28 none 0 0 0 0 Tryz.underlying33
set_option maxHeartbeats 3200000 in
set_option maxRecDepth 1000000 in
theorem lay_ins (B0 db sb : Nat) (L : List Chg) (id : Nat) (s : Sch) (tv : Value) (A : Option Addr) (n c : Nat) (row : List V) (w : World) (hd : DraftAt B0 w db sb L) (hT : Tabs w) (ht : TabS B0 db id s w tv) (hid : id < 256) (hs : rightS s = true) (hrow : RdS B0 w 3 A n (rowCells row)) (hn : row.length = n) (hro : RowOf s row) (hL : L.length ≤ 100000) (hB0 : B0 ≤ w.heap.size) (h3 : 3 ≤ B0) :
    Calls Tryz.prog 64 #[tv, .slice A n c, .slice none 0 0] w (PutPost B0 db sb w (L ++ layC id s.ixs (col row 0) (some row) none)) := by
  have ht' := ht
  obtain ⟨CA, cc, XA, xcc, rfl, h1, h2, hCA, hXA⟩ := ht
  have hpos := hro.pos hs
  obtain ⟨b, o, rfl, _⟩ := hrow.rd.some_ (by omega)
  have hf := right_facts hs
  have hcl := fits_len hro.fit
  obtain ⟨W0, hW0⟩ : ∃ W0, w.alloc (.cells #[.pointer (some ⟨db, 0, none⟩), .int .u8 (id : Nat), .string s.name, .slice CA s.cols.length cc, .slice XA s.ixs.length xcc] 113) = W0 := ⟨_, rfl⟩
  have hbl := Blk.new w #[.pointer (some ⟨db, 0, none⟩), .int .u8 (id : Nat), .string s.name, .slice CA s.cols.length cc, .slice XA s.ixs.length xcc] 113
  have hb1 := (Below.refl w.heap.size w).alloc (Nat.le_refl _) (.cells #[.pointer (some ⟨db, 0, none⟩), .int .u8 (id : Nat), .string s.name, .slice CA s.cols.length cc, .slice XA s.ixs.length xcc] 113)
  rw [hW0] at hbl hb1
  have hd0 := hd.below hb1
  have hsaf := hbl.safe (by decide) (by decide) B0
  have p0 := hbl.c 0 (v := .pointer (some ⟨db, 0, none⟩)) rfl
  have p1 := hbl.c 1 (v := .int .u8 (id : Nat)) rfl
  have p2 := hbl.c 2 (v := .string s.name) rfl
  have p3 := hbl.c 3 (v := .slice CA s.cols.length cc) rfl
  have p4 := hbl.c 4 (v := .slice XA s.ixs.length xcc) rfl
  obtain ⟨xn, hxn⟩ : ∃ xn, s.ixs.length = xn := ⟨_, rfl⟩
  -- what holds in every later world
  have HK : Hid (∀ W, Upd db W0 W → C W w.heap.size 0 (.pointer (some ⟨db, 0, none⟩)) ∧ C W w.heap.size 1 (.int .u8 (id : Nat)) ∧ C W w.heap.size 2 (.string s.name) ∧ C W w.heap.size 3 (.slice CA s.cols.length cc) ∧ C W w.heap.size 4 (.slice XA s.ixs.length xcc) ∧ Rd W 2 XA s.ixs.length (s.ixs.flatMap Ix.cells) ∧ RdS B0 W 3 (some ⟨b, o, none⟩) n (rowCells row) ∧ TabS B0 db id s W (.agg #[.pointer (some ⟨db, 0, none⟩), .int .u8 (id : Nat), .string s.name, .slice CA s.cols.length cc, .slice XA s.ixs.length xcc]) ∧ Tabs W ∧ B0 ≤ W.heap.size) := hide fun W hu =>
    ⟨p0.upd hsaf hd0 hu, p1.upd hsaf hd0 hu, p2.upd hsaf hd0 hu, p3.upd hsaf hd0 hu, p4.upd hsaf hd0 hu, ((hXA.below hb1).upd hd0 hu).rd, (hrow.below hb1).upd hd0 hu, (ht'.below hb1).upd hd0 hu, tabs_upd (hT.below hb1) hd0 hu h3, Nat.le_trans (Nat.le_trans hB0 hb1.size) hu.size⟩
  have Hd0 := hide hd0
  have Hb1 := hide hb1
  have HL := hide hL
  have Hlt0 := hide hd.lt
  have Hro := hide hro
  have Hs := hide hs
  have Hf := hide hf
  have hdlt : db < W0.heap.size := hd0.lt
  have hwlt : w.heap.size < W0.heap.size := hbl.lt
  rw [hxn] at p4 hXA
  have Hxn := hide hxn
  have hx3 : xn ≤ 3 := by have := hf.x3; omega
  clear hd hT ht' hrow hCA hXA hbl hb1 hd0 hsaf hL hro hs hf p0 p1 p2 p3 hxn h1 h2
  have hnq0 := neqNil
  have hnq1 := neqSome ⟨b, o, none⟩ n c
  have heq1 := eqlSome ⟨b, o, none⟩ n c
  go_enter Tryz.func64, Tryz.ntmps64
  go_wp2_with fail
  clear hW0
  go_loopw [17] (fun i wr => ∃ k : Nat, k ≤ xn ∧ i = .int .i64 k ∧ Hid (DraftAt B0 wr db sb (L ++ (s.ixs.take k).flatMap (layIx id (some row) none))) ∧ Hid (Upd db W0 wr)) (fun i _ => xn - (intOf i).toNat)
  case atStart => exact ⟨0, Nat.zero_le _, rfl, by simpa using Hd0, hide (Upd.refl _ _)⟩
  case round =>
    clear p4
    obtain ⟨k, hk, rfl, HD, HU⟩ := hrel
    obtain ⟨q0, q1, q2, q3, q4, hix, hrw, htb, htt, hB0r⟩ := HK.out wr HU.out
    by_cases hlt : k < xn
    · have hkl : k < s.ixs.length := by have := Hxn.out; omega
      obtain ⟨bx, ox, rfl, hc⟩ := Rd.struct Ix.cells_len s.ixs rfl hix k hkl
      obtain ⟨x, hx⟩ : ∃ x, s.ixs[k] = x := ⟨_, rfl⟩
      have hm : x ∈ s.ixs := by rw [← hx]; exact List.getElem_mem _
      have hxf := Hf.out.xs x hm
      have hxc3 := Hf.out.c3
      have htk : (s.ixs.take (k + 1)).flatMap (layIx id (some row) none) = (s.ixs.take k).flatMap (layIx id (some row) none) ++ [⟨2, entK id x row, [], false⟩] := by
        rw [List.take_succ_eq_append_getElem hkl, hx]; simp [layIx]
      have htl : ((s.ixs.take k).flatMap (layIx id (some row) none)).length ≤ 3 := by
        rw [layIns_len]; simp; omega
      rw [hx] at hc
      obtain ⟨xc', xu⟩ := x
      simp only at hxf
      obtain ⟨xc, rfl⟩ := Int.eq_ofNat_of_zero_le (show 0 ≤ xc' by omega)
      have e0 : C wr bx (ox + k * 2) (.int .i64 (xc : Nat)) := hc 0 (by omega)
      have e1 : C wr bx (ox + k * 2 + 1) (.bool xu) := hc 1 (by omega)
      have hki : (k : Int) < (xn : Int) := by omega
      have hal := (Below.refl wr.heap.size wr).alloc (Nat.le_refl _) (.cells #[.int .i64 (xc : Nat), .bool xu] 68)
      have n0 := C.new wr #[.int .i64 (xc : Nat), .bool xu] 68 0 (v := .int .i64 (xc : Nat)) rfl
      have n1 := C.new wr #[.int .i64 (xc : Nat), .bool xu] 68 1 (v := .bool xu) rfl
      have r0 := q0.below hal
      have r1 := q1.below hal
      have r2 := q2.below hal
      have r3 := q3.below hal
      have r4 := q4.below hal
      obtain ⟨W, hW⟩ : ∃ W, wr.alloc (.cells #[.int .i64 (xc : Nat), .bool xu] 68) = W := ⟨_, rfl⟩
      rw [hW] at hal n0 n1 r0 r1 r2 r3 r4
      have hrv := Hro.out.ok Hs.out
      have hent := entry_any db id s _ xc xu (some ⟨b, o, none⟩) n c row W.drew ((htt.below hal).below ((Below.refl _ _).drew)) ((htb.v.below hal).below ((Below.refl _ _).drew)) hid ((hrw.rd.below hal).drew) hn (by omega) (by omega) hrv (fun v hv => by have := keyV_len (fits_val Hs.out Hro.out.fit v hv).1 (fits_val Hs.out Hro.out.fit v hv).2; omega)
      obtain ⟨kl, hkl'⟩ : ∃ kl, (entK id ⟨(xc : Nat), xu⟩ row).length = kl := ⟨_, rfl⟩
      have hkl60 : kl ≤ 60 := by
        have h1 := (Hro.out.col Hs.out xc).2
        have h2 := (Hro.out.col Hs.out 0).2
        rw [← hkl']; simp only [entK, List.length_cons, List.length_append, Int.toNat_natCast]; omega
      have hklp : 0 < kl := by rw [← hkl']; simp [entK]
      rw [hkl'] at hent
      have Hent := hide hent
      have HDW := hide (HD.out.below hal)
      have HUW := hide (HU.out.trans (Upd.of_below hal (Nat.lt_of_lt_of_le hdlt HU.out.size)))
      have hBW : B0 ≤ W.heap.size := Nat.le_trans hB0r hal.size
      have Htk := hide htk
      have HP : Hid (∀ W1 A1 c1, Below W.heap.size W W1 → RB W1 A1 kl (entK id ⟨(xc : Nat), xu⟩ row) → Calls Tryz.prog 56 #[.pointer (some ⟨db, 0, none⟩), .int .i64 2, .slice A1 kl c1, .slice none 0 0] W1 (PutPost B0 db sb W1 ((L ++ (s.ixs.take k).flatMap (layIx id (some row) none)) ++ [⟨2, entK id ⟨(xc : Nat), xu⟩ row, [], false⟩]))) := hide fun W1 A1 c1 hb hr =>
        dput_any B0 db sb _ 2 A1 none kl c1 0 0 _ [] W1 (HDW.out.below hb) hr (Rd.nil _ _ _) (by omega) (by omega) hklp hkl60 (by omega) (by rw [List.length_append]; have := HL.out; omega) (Nat.le_trans hBW hb.size)
      have hdlW : db < W.heap.size := HDW.out.lt
      clear hc hx hm hix hal hent hrv htk htl htb htt hrw q0 q1 q2 q3 q4 HD HU hB0r
      go_wp2_with fail
      clear hW
      go_region_law
        ((first
          | (refine step_call (f := 118) (vs := [.agg #[.pointer (some ⟨db, 0, none⟩), .int .u8 (id : Nat), .string s.name, .slice CA s.cols.length cc, .slice (some ⟨bx, ox, none⟩) s.ixs.length xcc], .agg #[.int .i64 (xc : Nat), .bool xu], .slice (some ⟨b, o, none⟩) n c]) (R := fun e w' => ∃ A' c', e = .returned (.slice A' kl c') ∧ w'.ownsRow W.drew.heap.size 5 1 (.slice A' kl c') kl (bys (entK id ⟨(xc : Nat), xu⟩ row)) ∧ Below W.drew.heap.size W.drew w') (by rfl) (by rfl) ?_ (by simp [go_sem]) ?_ ?_; rfl; exact Hent.out; rintro e w1 ⟨A1, c1, rfl, hown1, hb1⟩; refine ⟨_, rfl, ?_⟩; have hb1 := undrewd hb1; have r0' := r0.below hb1)
          | (refine step_call (f := 56) (vs := [.pointer (some ⟨db, 0, none⟩), .int .i64 2, .slice A1 kl c1, .slice none 0 0]) (R := PutPost B0 db sb w1 ((L ++ (s.ixs.take k).flatMap (layIx id (some row) none)) ++ [⟨2, entK id ⟨(xc : Nat), xu⟩ row, [], false⟩])) (by rfl) (by rfl) ?_ (by simp [go_sem]) ?_ ?_; rfl; exact HP.out w1 A1 c1 hb1 (Rd.of_own hown1); rintro e w2 ⟨rfl, hd2, hu2⟩; refine ⟨_, rfl, ?_⟩)
          | fail))
      all_goals
        have HD2 := hide hd2
        have HU2 := hide ((HUW.out.trans (Upd.of_below hb1 hdlW)).trans hu2)
        clear hd2 hu2 hb1 hown1 r0' HP Hent r0 r1 r2 r3 r4 n0 n1
        go_simp
        go_wp2_with fail
        exact ⟨⟨k + 1, hlt, by go_num, hide (by rw [Htk.out, ← List.append_assoc]; exact HD2.out), HU2⟩, by simp [intOf]; omega⟩
    have hke : xn = k := by omega
    subst hke
    have hall : s.ixs.take xn = s.ixs := List.take_of_length_le (by have := Hxn.out; omega)
    have hD := HD.out
    rw [hall] at hD
    have hro3 := Hro.out.row Hs.out
    have hrv := Hro.out.ok Hs.out
    have henc := encrow_ok (some ⟨b, o, none⟩) n c row hn hro3 wr hrw.rd htt
    obtain ⟨el, hel⟩ : ∃ el, (keyL row).length = el := ⟨_, rfl⟩
    have hel1 : el ≤ 1800 := by
      rw [← hel]
      have h5 := flat_le' row (fun v hv => keyV_len (fits_val Hs.out Hro.out.fit v hv).1 (fits_val Hs.out Hro.out.fit v hv).2)
      have := hro3.1
      rw [keyL]
      omega
    rw [hel] at henc
    have hp0 : 0 < row.length := by omega
    have ec0 : col row 0 = row[0] := by rw [col, List.getD_eq_getElem?_getD, List.getElem?_eq_getElem hp0]; rfl
    obtain ⟨v0, hv0⟩ : ∃ v0, col row 0 = v0 := ⟨_, rfl⟩
    have hv0k := hrv _ (List.getElem_mem hp0)
    have hv0l := ((Hro.out.col Hs.out 0).2)
    rw [← ec0, hv0] at hv0k
    rw [hv0] at hv0l
    obtain ⟨b', o', he, z0, z1, z2⟩ := Row.cells (A := some ⟨b, o, none⟩) (l := row) (by rw [hn]; exact hrw.rd) 0 hp0
    injection he with he
    injection he with he1 he2 _
    subst he1 he2
    rw [← ec0, hv0, Nat.zero_mul, Nat.add_zero] at z0 z1 z2
    have Henc := hide henc
    have HD3 := hide hD
    have Hhr := hide htb
    have Htt := hide htt
    have hwrU := hide HU.out
    have hLl : (L ++ s.ixs.flatMap (layIx id (some row) none)).length ≤ 1000000 := by rw [List.length_append, layIns_len]; have := HL.out; have := Hxn.out; omega
    have hdlr : db < wr.heap.size := hD.lt
    obtain ⟨vl, hvl⟩ : ∃ vl, (keyV v0).length = vl := ⟨_, rfl⟩
    clear hall hD hro3 hrv henc ec0 htb htt hix HD HU
    go_wp2_with fail
    refine Henc.out.mono ?_
    rintro e w1 ⟨A1, c1, rfl, hown1, hb1⟩
    have r0 := q0.below hb1
    have r1 := q1.below hb1
    have r2 := q2.below hb1
    have r3 := q3.below hb1
    have r4 := q4.below hb1
    have y0 := z0.below hb1
    have y1 := z1.below hb1
    have y2 := z2.below hb1
    have hrow : Calls Tryz.prog 116 #[.agg #[.pointer (some ⟨db, 0, none⟩), .int .u8 (id : Nat), .string s.name, .slice CA s.cols.length cc, .slice XA s.ixs.length xcc], .agg #[.int .i64 v0.k, .int .i64 v0.n, .string v0.s]] w1.drew _ := row_any db id s _ v0 hv0k (by omega) w1.drew ((Htt.out.below hb1).below ((Below.refl _ _).drew)) ((Hhr.out.v.below hb1).below ((Below.refl _ _).drew)) hid
    rw [hvl] at hrow hv0l
    have Hrow := hide hrow
    have HDW := hide (HD3.out.below hb1)
    have Hbk := hide (Rd.of_own hown1)
    have hBW : B0 ≤ w1.heap.size := Nat.le_trans hB0r hb1.size
    have HUW := hide (hwrU.out.trans (Upd.of_below hb1 hdlr))
    have HP : Hid (∀ W1 A2 c2, Below w1.heap.size w1 W1 → RB W1 A2 (1 + vl) (rowK id v0) → Calls Tryz.prog 56 #[.pointer (some ⟨db, 0, none⟩), .int .i64 1, .slice A2 (1 + vl) c2, .slice A1 el c1] W1 (PutPost B0 db sb W1 ((L ++ s.ixs.flatMap (layIx id (some row) none)) ++ [⟨1, rowK id v0, keyL row, false⟩]))) := hide fun W1 A2 c2 hb hr =>
      dput_any B0 db sb _ 1 A2 A1 (1 + vl) c2 el c1 _ (keyL row) W1 (HDW.out.below hb) hr (Hbk.out.below hb) (by omega) (by omega) (by omega) (by omega) hel1 hLl (Nat.le_trans hBW hb.size)
    have hdlW : db < w1.heap.size := HDW.out.lt
    have Hv0 := hide hv0
    have hn0 : 0 < n := by omega
    clear hown1 hb1 hrow Henc Hhr Htt hwrU q0 q1 q2 q3 q4 z0 z1 z2 hrw hv0 HD3 hvl hv0k
    go_wp2_with fail
    go_region_law
      ((first
        | (refine step_call (f := 116) (vs := [.agg #[.pointer (some ⟨db, 0, none⟩), .int .u8 (id : Nat), .string s.name, .slice CA s.cols.length cc, .slice XA s.ixs.length xcc], .agg #[.int .i64 v0.k, .int .i64 v0.n, .string v0.s]]) (R := fun e w' => ∃ A' c', e = .returned (.slice A' (1 + vl) c') ∧ w'.ownsRow w1.drew.heap.size 5 1 (.slice A' (1 + vl) c') (1 + vl) (bys (rowK id v0)) ∧ Below w1.drew.heap.size w1.drew w') (by rfl) (by rfl) ?_ (by simp [go_sem]) ?_ ?_; rfl; exact Hrow.out; rintro e w2 ⟨A2, c2, rfl, hown2, hb2⟩; refine ⟨_, rfl, ?_⟩; have hb2 := undrewd hb2; have r0' := r0.below hb2)
        | (refine step_call (f := 56) (vs := [.pointer (some ⟨db, 0, none⟩), .int .i64 1, .slice A2 (1 + vl) c2, .slice A1 el c1]) (R := PutPost B0 db sb w2 ((L ++ s.ixs.flatMap (layIx id (some row) none)) ++ [⟨1, rowK id v0, keyL row, false⟩])) (by rfl) (by rfl) ?_ (by simp [go_sem]) ?_ ?_; rfl; exact HP.out w2 A2 c2 hb2 (Rd.of_own hown2); rintro e w3 ⟨rfl, hd3, hu3⟩; refine ⟨_, rfl, ?_⟩)
        | fail))
    all_goals
      have HD2 := hide hd3
      have HU2 := hide ((HUW.out.trans (Upd.of_below hb2 hdlW)).trans hu3)
      clear hd3 hu3 hb2 hown2 r0' HP Hrow r0 r1 r2 r3 r4 y0 y1 y2
      go_simp
      go_wp2_with fail
      go_ret
      refine ⟨rfl, ?_, (Upd.of_below Hb1.out Hlt0.out).trans HU2.out⟩
      rw [layC, Hv0.out, ← List.append_assoc]
      exact HD2.out
theorem layDel_len (id : Nat) (row : List V) (l : List Ix) : (l.flatMap (layIx id none (some row))).length = l.length := by
  induction l with
  | nil => rfl
  | cons x l ih => simp only [List.flatMap_cons, List.length_append, ih, List.length_cons]; simp [layIx]; omega
set_option maxHeartbeats 3200000 in
set_option maxRecDepth 1000000 in
theorem lay_del (B0 db sb : Nat) (L : List Chg) (id : Nat) (s : Sch) (tv : Value) (A : Option Addr) (n c : Nat) (row : List V) (w : World) (hd : DraftAt B0 w db sb L) (hT : Tabs w) (ht : TabS B0 db id s w tv) (hid : id < 256) (hs : rightS s = true) (hrow : RdS B0 w 3 A n (rowCells row)) (hn : row.length = n) (hro : RowOf s row) (hL : L.length ≤ 100000) (hB0 : B0 ≤ w.heap.size) (h3 : 3 ≤ B0) :
    Calls Tryz.prog 64 #[tv, .slice none 0 0, .slice A n c] w (PutPost B0 db sb w (L ++ layC id s.ixs (col row 0) none (some row))) := by
  have ht' := ht
  obtain ⟨CA, cc, XA, xcc, rfl, h1, h2, hCA, hXA⟩ := ht
  have hpos := hro.pos hs
  obtain ⟨b, o, rfl, _⟩ := hrow.rd.some_ (by omega)
  have hf := right_facts hs
  have hcl := fits_len hro.fit
  obtain ⟨W0, hW0⟩ : ∃ W0, w.alloc (.cells #[.pointer (some ⟨db, 0, none⟩), .int .u8 (id : Nat), .string s.name, .slice CA s.cols.length cc, .slice XA s.ixs.length xcc] 113) = W0 := ⟨_, rfl⟩
  have hbl := Blk.new w #[.pointer (some ⟨db, 0, none⟩), .int .u8 (id : Nat), .string s.name, .slice CA s.cols.length cc, .slice XA s.ixs.length xcc] 113
  have hb1 := (Below.refl w.heap.size w).alloc (Nat.le_refl _) (.cells #[.pointer (some ⟨db, 0, none⟩), .int .u8 (id : Nat), .string s.name, .slice CA s.cols.length cc, .slice XA s.ixs.length xcc] 113)
  rw [hW0] at hbl hb1
  have hd0 := hd.below hb1
  have hsaf := hbl.safe (by decide) (by decide) B0
  have p0 := hbl.c 0 (v := .pointer (some ⟨db, 0, none⟩)) rfl
  have p1 := hbl.c 1 (v := .int .u8 (id : Nat)) rfl
  have p2 := hbl.c 2 (v := .string s.name) rfl
  have p3 := hbl.c 3 (v := .slice CA s.cols.length cc) rfl
  have p4 := hbl.c 4 (v := .slice XA s.ixs.length xcc) rfl
  obtain ⟨xn, hxn⟩ : ∃ xn, s.ixs.length = xn := ⟨_, rfl⟩
  -- what holds in every later world
  have HK : Hid (∀ W, Upd db W0 W → C W w.heap.size 0 (.pointer (some ⟨db, 0, none⟩)) ∧ C W w.heap.size 1 (.int .u8 (id : Nat)) ∧ C W w.heap.size 2 (.string s.name) ∧ C W w.heap.size 3 (.slice CA s.cols.length cc) ∧ C W w.heap.size 4 (.slice XA s.ixs.length xcc) ∧ Rd W 2 XA s.ixs.length (s.ixs.flatMap Ix.cells) ∧ RdS B0 W 3 (some ⟨b, o, none⟩) n (rowCells row) ∧ TabS B0 db id s W (.agg #[.pointer (some ⟨db, 0, none⟩), .int .u8 (id : Nat), .string s.name, .slice CA s.cols.length cc, .slice XA s.ixs.length xcc]) ∧ Tabs W ∧ B0 ≤ W.heap.size) := hide fun W hu =>
    ⟨p0.upd hsaf hd0 hu, p1.upd hsaf hd0 hu, p2.upd hsaf hd0 hu, p3.upd hsaf hd0 hu, p4.upd hsaf hd0 hu, ((hXA.below hb1).upd hd0 hu).rd, (hrow.below hb1).upd hd0 hu, (ht'.below hb1).upd hd0 hu, tabs_upd (hT.below hb1) hd0 hu h3, Nat.le_trans (Nat.le_trans hB0 hb1.size) hu.size⟩
  have Hd0 := hide hd0
  have Hb1 := hide hb1
  have HL := hide hL
  have Hlt0 := hide hd.lt
  have Hro := hide hro
  have Hs := hide hs
  have Hf := hide hf
  have hdlt : db < W0.heap.size := hd0.lt
  have hwlt : w.heap.size < W0.heap.size := hbl.lt
  rw [hxn] at p4 hXA
  have Hxn := hide hxn
  have hx3 : xn ≤ 3 := by have := hf.x3; omega
  clear hd hT ht' hrow hCA hXA hbl hb1 hd0 hsaf hL hro hs hf p0 p1 p2 p3 hxn h1 h2
  have hnq0 := neqNil
  have heq0 := eqlNil
  have hnq1 := neqSome ⟨b, o, none⟩ n c
  have heq1 := eqlSome ⟨b, o, none⟩ n c
  go_enter Tryz.func64, Tryz.ntmps64
  go_wp2_with fail
  clear hW0
  go_loopw [17] (fun i wr => ∃ k : Nat, k ≤ xn ∧ i = .int .i64 k ∧ Hid (DraftAt B0 wr db sb (L ++ (s.ixs.take k).flatMap (layIx id none (some row)))) ∧ Hid (Upd db W0 wr)) (fun i _ => xn - (intOf i).toNat)
  case atStart => exact ⟨0, Nat.zero_le _, rfl, by simpa using Hd0, hide (Upd.refl _ _)⟩
  case round =>
    clear p4
    obtain ⟨k, hk, rfl, HD, HU⟩ := hrel
    obtain ⟨q0, q1, q2, q3, q4, hix, hrw, htb, htt, hB0r⟩ := HK.out wr HU.out
    by_cases hlt : k < xn
    · have hkl : k < s.ixs.length := by have := Hxn.out; omega
      obtain ⟨bx, ox, rfl, hc⟩ := Rd.struct Ix.cells_len s.ixs rfl hix k hkl
      obtain ⟨x, hx⟩ : ∃ x, s.ixs[k] = x := ⟨_, rfl⟩
      have hm : x ∈ s.ixs := by rw [← hx]; exact List.getElem_mem _
      have hxf := Hf.out.xs x hm
      have hxc3 := Hf.out.c3
      have htk : (s.ixs.take (k + 1)).flatMap (layIx id none (some row)) = (s.ixs.take k).flatMap (layIx id none (some row)) ++ [⟨2, entK id x row, [], true⟩] := by
        rw [List.take_succ_eq_append_getElem hkl, hx]; simp [layIx]
      have htl : ((s.ixs.take k).flatMap (layIx id none (some row))).length ≤ 3 := by
        rw [layDel_len]; simp; omega
      rw [hx] at hc
      obtain ⟨xc', xu⟩ := x
      simp only at hxf
      obtain ⟨xc, rfl⟩ := Int.eq_ofNat_of_zero_le (show 0 ≤ xc' by omega)
      have e0 : C wr bx (ox + k * 2) (.int .i64 (xc : Nat)) := hc 0 (by omega)
      have e1 : C wr bx (ox + k * 2 + 1) (.bool xu) := hc 1 (by omega)
      have hki : (k : Int) < (xn : Int) := by omega
      have hal := (Below.refl wr.heap.size wr).alloc (Nat.le_refl _) (.cells #[.int .i64 (xc : Nat), .bool xu] 68)
      have n0 := C.new wr #[.int .i64 (xc : Nat), .bool xu] 68 0 (v := .int .i64 (xc : Nat)) rfl
      have n1 := C.new wr #[.int .i64 (xc : Nat), .bool xu] 68 1 (v := .bool xu) rfl
      have r0 := q0.below hal
      have r1 := q1.below hal
      have r2 := q2.below hal
      have r3 := q3.below hal
      have r4 := q4.below hal
      obtain ⟨W, hW⟩ : ∃ W, wr.alloc (.cells #[.int .i64 (xc : Nat), .bool xu] 68) = W := ⟨_, rfl⟩
      rw [hW] at hal n0 n1 r0 r1 r2 r3 r4
      have hrv := Hro.out.ok Hs.out
      have hent := entry_any db id s _ xc xu (some ⟨b, o, none⟩) n c row W.drew ((htt.below hal).below ((Below.refl _ _).drew)) ((htb.v.below hal).below ((Below.refl _ _).drew)) hid ((hrw.rd.below hal).drew) hn (by omega) (by omega) hrv (fun v hv => by have := keyV_len (fits_val Hs.out Hro.out.fit v hv).1 (fits_val Hs.out Hro.out.fit v hv).2; omega)
      obtain ⟨kl, hkl'⟩ : ∃ kl, (entK id ⟨(xc : Nat), xu⟩ row).length = kl := ⟨_, rfl⟩
      have hkl60 : kl ≤ 60 := by
        have h1 := (Hro.out.col Hs.out xc).2
        have h2 := (Hro.out.col Hs.out 0).2
        rw [← hkl']; simp only [entK, List.length_cons, List.length_append, Int.toNat_natCast]; omega
      have hklp : 0 < kl := by rw [← hkl']; simp [entK]
      rw [hkl'] at hent
      have Hent := hide hent
      have HDW := hide (HD.out.below hal)
      have HUW := hide (HU.out.trans (Upd.of_below hal (Nat.lt_of_lt_of_le hdlt HU.out.size)))
      have hBW : B0 ≤ W.heap.size := Nat.le_trans hB0r hal.size
      have Htk := hide htk
      have HP : Hid (∀ W1 A1 c1, Below W.heap.size W W1 → RB W1 A1 kl (entK id ⟨(xc : Nat), xu⟩ row) → Calls Tryz.prog 120 #[.pointer (some ⟨db, 0, none⟩), .int .i64 2, .slice A1 kl c1] W1 (PutPost B0 db sb W1 ((L ++ (s.ixs.take k).flatMap (layIx id none (some row))) ++ [⟨2, entK id ⟨(xc : Nat), xu⟩ row, [], true⟩]))) := hide fun W1 A1 c1 hb hr =>
        ddel_any B0 db sb _ 2 A1 kl c1 _ W1 (HDW.out.below hb) hr (by omega) (by omega) hklp hkl60 (by rw [List.length_append]; have := HL.out; omega) (Nat.le_trans hBW hb.size)
      have hdlW : db < W.heap.size := HDW.out.lt
      clear hc hx hm hix hal hent hrv htk htl htb htt hrw q0 q1 q2 q3 q4 HD HU hB0r
      go_wp2_with fail
      clear hW
      go_region_law
        ((first
          | (refine step_call (f := 118) (vs := [.agg #[.pointer (some ⟨db, 0, none⟩), .int .u8 (id : Nat), .string s.name, .slice CA s.cols.length cc, .slice (some ⟨bx, ox, none⟩) s.ixs.length xcc], .agg #[.int .i64 (xc : Nat), .bool xu], .slice (some ⟨b, o, none⟩) n c]) (R := fun e w' => ∃ A' c', e = .returned (.slice A' kl c') ∧ w'.ownsRow W.drew.heap.size 5 1 (.slice A' kl c') kl (bys (entK id ⟨(xc : Nat), xu⟩ row)) ∧ Below W.drew.heap.size W.drew w') (by rfl) (by rfl) ?_ (by simp [go_sem]) ?_ ?_; rfl; exact Hent.out; rintro e w1 ⟨A1, c1, rfl, hown1, hb1⟩; refine ⟨_, rfl, ?_⟩; have hb1 := undrewd hb1; have r0' := r0.below hb1)
          | (refine step_call (f := 120) (vs := [.pointer (some ⟨db, 0, none⟩), .int .i64 2, .slice A1 kl c1]) (R := PutPost B0 db sb w1 ((L ++ (s.ixs.take k).flatMap (layIx id none (some row))) ++ [⟨2, entK id ⟨(xc : Nat), xu⟩ row, [], true⟩])) (by rfl) (by rfl) ?_ (by simp [go_sem]) ?_ ?_; rfl; exact HP.out w1 A1 c1 hb1 (Rd.of_own hown1); rintro e w2 ⟨rfl, hd2, hu2⟩; refine ⟨_, rfl, ?_⟩)
          | fail))
      all_goals
        have HD2 := hide hd2
        have HU2 := hide ((HUW.out.trans (Upd.of_below hb1 hdlW)).trans hu2)
        clear hd2 hu2 hb1 hown1 r0' HP Hent r0 r1 r2 r3 r4 n0 n1
        go_simp
        go_wp2_with fail
        exact ⟨⟨k + 1, hlt, by go_num, hide (by rw [Htk.out, ← List.append_assoc]; exact HD2.out), HU2⟩, by simp [intOf]; omega⟩
    have hke : xn = k := by omega
    subst hke
    have hall : s.ixs.take xn = s.ixs := List.take_of_length_le (by have := Hxn.out; omega)
    have hD := HD.out
    rw [hall] at hD
    have hro3 := Hro.out.row Hs.out
    have hrv := Hro.out.ok Hs.out
    have hp0 : 0 < row.length := by omega
    have ec0 : col row 0 = row[0] := by rw [col, List.getD_eq_getElem?_getD, List.getElem?_eq_getElem hp0]; rfl
    obtain ⟨v0, hv0⟩ : ∃ v0, col row 0 = v0 := ⟨_, rfl⟩
    have hv0k := hrv _ (List.getElem_mem hp0)
    have hv0l := ((Hro.out.col Hs.out 0).2)
    rw [← ec0, hv0] at hv0k
    rw [hv0] at hv0l
    obtain ⟨b', o', he, z0, z1, z2⟩ := Row.cells (A := some ⟨b, o, none⟩) (l := row) (by rw [hn]; exact hrw.rd) 0 hp0
    injection he with he
    injection he with he1 he2 _
    subst he1 he2
    rw [← ec0, hv0, Nat.zero_mul, Nat.add_zero] at z0 z1 z2
    have HD3 := hide hD
    have Hhr := hide htb
    have Htt := hide htt
    have hwrU := hide HU.out
    have hLl : (L ++ s.ixs.flatMap (layIx id none (some row))).length ≤ 1000000 := by rw [List.length_append, layDel_len]; have := HL.out; have := Hxn.out; omega
    have hdlr : db < wr.heap.size := hD.lt
    obtain ⟨vl, hvl⟩ : ∃ vl, (keyV v0).length = vl := ⟨_, rfl⟩
    clear hall hD hro3 hrv ec0 htb htt hix HD HU
    have hb1 := Below.refl wr.heap.size wr
    have r0 := q0.below hb1
    have r1 := q1.below hb1
    have r2 := q2.below hb1
    have r3 := q3.below hb1
    have r4 := q4.below hb1
    have y0 := z0.below hb1
    have y1 := z1.below hb1
    have y2 := z2.below hb1
    have hrow : Calls Tryz.prog 116 #[.agg #[.pointer (some ⟨db, 0, none⟩), .int .u8 (id : Nat), .string s.name, .slice CA s.cols.length cc, .slice XA s.ixs.length xcc], .agg #[.int .i64 v0.k, .int .i64 v0.n, .string v0.s]] wr.drew _ := row_any db id s _ v0 hv0k (by omega) wr.drew ((Htt.out.below hb1).below ((Below.refl _ _).drew)) ((Hhr.out.v.below hb1).below ((Below.refl _ _).drew)) hid
    rw [hvl] at hrow hv0l
    have Hrow := hide hrow
    have HDW := hide (HD3.out.below hb1)
    have hBW : B0 ≤ wr.heap.size := Nat.le_trans hB0r hb1.size
    have HUW := hide (hwrU.out.trans (Upd.of_below hb1 hdlr))
    have HP : Hid (∀ W1 A2 c2, Below wr.heap.size wr W1 → RB W1 A2 (1 + vl) (rowK id v0) → Calls Tryz.prog 120 #[.pointer (some ⟨db, 0, none⟩), .int .i64 1, .slice A2 (1 + vl) c2] W1 (PutPost B0 db sb W1 ((L ++ s.ixs.flatMap (layIx id none (some row))) ++ [⟨1, rowK id v0, [], true⟩]))) := hide fun W1 A2 c2 hb hr =>
      ddel_any B0 db sb _ 1 A2 (1 + vl) c2 _ W1 (HDW.out.below hb) hr (by omega) (by omega) (by omega) (by omega) hLl (Nat.le_trans hBW hb.size)
    have hdlW : db < wr.heap.size := HDW.out.lt
    have Hv0 := hide hv0
    have hn0 : 0 < n := by omega
    clear hb1 hrow Hhr Htt hwrU q0 q1 q2 q3 q4 z0 z1 z2 hrw hv0 HD3 hvl hv0k
    go_wp2_with fail
    go_region_law
      ((first
        | (refine step_call (f := 116) (vs := [.agg #[.pointer (some ⟨db, 0, none⟩), .int .u8 (id : Nat), .string s.name, .slice CA s.cols.length cc, .slice XA s.ixs.length xcc], .agg #[.int .i64 v0.k, .int .i64 v0.n, .string v0.s]]) (R := fun e w' => ∃ A' c', e = .returned (.slice A' (1 + vl) c') ∧ w'.ownsRow wr.drew.heap.size 5 1 (.slice A' (1 + vl) c') (1 + vl) (bys (rowK id v0)) ∧ Below wr.drew.heap.size wr.drew w') (by rfl) (by rfl) ?_ (by simp [go_sem]) ?_ ?_; rfl; exact Hrow.out; rintro e w2 ⟨A2, c2, rfl, hown2, hb2⟩; refine ⟨_, rfl, ?_⟩; have hb2 := undrewd hb2; have r0' := r0.below hb2)
        | (refine step_call (f := 120) (vs := [.pointer (some ⟨db, 0, none⟩), .int .i64 1, .slice A2 (1 + vl) c2]) (R := PutPost B0 db sb w2 ((L ++ s.ixs.flatMap (layIx id none (some row))) ++ [⟨1, rowK id v0, [], true⟩])) (by rfl) (by rfl) ?_ (by simp [go_sem]) ?_ ?_; rfl; exact HP.out w2 A2 c2 hb2 (Rd.of_own hown2); rintro e w3 ⟨rfl, hd3, hu3⟩; refine ⟨_, rfl, ?_⟩)
        | fail))
    all_goals
      have HD2 := hide hd3
      have HU2 := hide ((HUW.out.trans (Upd.of_below hb2 hdlW)).trans hu3)
      clear hd3 hu3 hb2 hown2 r0' HP Hrow r0 r1 r2 r3 r4 y0 y1 y2
      go_simp
      go_wp2_with fail
      go_ret
      refine ⟨rfl, ?_, (Upd.of_below Hb1.out Hlt0.out).trans HU2.out⟩
      rw [layC, Hv0.out, ← List.append_assoc]
      exact HD2.out
end Go.Proofs.YtekokogmnhlchaaGreatDoor
