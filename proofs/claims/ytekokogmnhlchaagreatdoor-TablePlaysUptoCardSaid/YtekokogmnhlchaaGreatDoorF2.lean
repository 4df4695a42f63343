import Derived.Test.YtekokogmnhlchaaGreatDoorF1
set_option linter.unusedSimpArgs false
set_option linter.unusedVariables false
set_option linter.unusedSectionVars false
namespace Go.Proofs.YtekokogmnhlchaaGreatDoor
open Go.RowKit
set_option maxHeartbeats 6400000 in
set_option maxRecDepth 1000000 in
theorem upd15_any {F : Nat → Prop} (A : Option Addr) (n c : Nat) (W : List Tb) (nm : ByteArray) (RA : Option Addr) (m rcap : Nat) (row : List V) (w : World) (hW : DBR F w A n W) (hFo : ∀ b, F b → b < w.heap.size) (ho : OkW W) (hrow : Rd w 3 RA m (rowCells row)) (hm : row.length = m) (hwf : ∀ v ∈ row, wf64 v.n) (hrs : ∀ v ∈ row, v.s.size ≤ 100000000) (hm4 : m ≤ 1000000) :
    Calls Tryz.prog 78 #[.agg #[.slice A n c], .string nm, .slice RA m rcap] w (Db15 F w (updD15 W nm row) (updE15 W nm row)) := by
  have hn4 : n ≤ 4 := hW.1 ▸ ho.n4
  have ha0 := (Below.refl w.heap.size w).alloc (Nat.le_refl _) (.cells #[.slice A n c] 73)
  have ha2 := ha0.alloc ha0.size (.cells #[.slice none 0 0] 73)
  have n0 := (Blk.new w #[.slice A n c] 73).alloc (.cells #[.slice none 0 0] 73)
  have n2 := Blk.new (w.alloc (.cells #[.slice A n c] 73)) #[.slice none 0 0] 73
  rw [show (w.alloc (.cells #[.slice A n c] 73)).heap.size = w.heap.size + 1 by simp] at n2
  obtain ⟨W1, hW1⟩ : ∃ W1, (w.alloc (.cells #[.slice A n c] 73)).alloc (.cells #[.slice none 0 0] 73) = W1 := ⟨_, rfl⟩
  rw [hW1] at n0 n2 ha2
  have hat := at15_any A n c W nm W1 (hW.below ha2) (by omega)
  have HW := hide (hW.below ha2)
  have HW0 := hide hW
  have HFo := hide hFo
  have Hrow := hide (hrow.below ha2)
  have Ha2 := hide ha2
  have N0 := hide n0
  have N2 := hide n2
  have Hl := hide hW.1
  have Hm := hide hm
  have Hwf := hide hwf
  have Hrs := hide hrs
  clear ha0 ha2 n0 n2 hW hrow hm hwf hrs hFo
  cases hf : findT W nm 0 with
  | none =>
    rw [atD_no hf] at hat
    have Hat := hide hat
    have e1 : updE15 W nm row = 60 := by rw [updE15, hf]
    have e2 : updD15 W nm row = W := by rw [updD15, e1]; rfl
    rw [e1, e2]
    have b0 := N0.out.c 0 (v := .slice A n c) rfl
    clear hat hf e1 e2
    go_enter Tryz.func78, Tryz.ntmps78
    go_wp2_with fail
    refine Hat.out.mono ?_
    rintro e w2 ⟨rfl, hb2⟩
    have HB2 := hide hb2
    clear b0 hb2 Hat
    have m0 := N0.out.below HB2.out
    have m2 := N2.out.below HB2.out
    have b0 := m0.c 0 (v := .slice A n c) rfl
    have d2 := m2.c 0 (v := .slice none 0 0) rfl
    have f2 := m2.fr 0
    have r2 := (m2.set 0 (.slice A n c)).c 0 (v := .slice A n c) rfl
    have HBE := hide ((below_chain Ha2.out HB2.out).setCell (p := ⟨w.heap.size + 1, 0, none⟩) (by show w.heap.size ≤ w.heap.size + 1; omega) (.slice A n c))
    clear m0 m2
    go_wp2_with fail
    refine bodyPost_ret (v := .tuple #[.agg #[.slice A n c], .int .i64 60]) (by simp [results, Tryz.results78, go_sem, r2]) rfl ?_
    exact ⟨A, n, c, rfl, HW0.out.below HBE.out, HBE.out⟩
  | some p =>
    obtain ⟨i, U⟩ := p
    rw [atD_some hf] at hat
    have Hat := hide hat
    obtain ⟨hU, hUn⟩ := findT_at hf
    have hUm := List.mem_of_getElem? hU
    obtain ⟨hiW, hUe⟩ := List.getElem?_eq_some_iff.1 hU
    have hin : i < n := by rw [← Hl.out]; exact hiW
    have hflt := @fnd_lt (col row 0) U.rows
    have hfle := @fnd_le (col row 0) U.rows
    have hright := ho.right U hUm
    obtain ⟨fk, fb, hF⟩ : ∃ fk fb, fnd (col row 0) U.rows = (fk, fb) := ⟨_, _, rfl⟩
    have e1 : updE15 W nm row = if fitsB U.s row then (if fb then (if twB U row fk then 64 else 0) else 4) else 62 := by rw [updE15, hf]; simp only [hF]
    have e2 : updE15 W nm row ≠ 0 → updD15 W nm row = W := fun h => by rw [updD15, if_neg h]
    have e3 : updE15 W nm row = 0 → updD15 W nm row = W.set i ⟨U.s, U.rows.set fk row⟩ := fun h => by rw [updD15, if_pos h, setR, hf]; simp only [updR15, hF]
    rw [hF] at hflt hfle
    simp only at hflt hfle
    obtain ⟨DD, hDD⟩ : ∃ DD, updD15 W nm row = DD := ⟨_, rfl⟩
    obtain ⟨EE, hEE⟩ : ∃ EE, updE15 W nm row = EE := ⟨_, rfl⟩
    rw [hDD, hEE] at e2 e3
    rw [hEE] at e1
    rw [hDD, hEE]
    have HF := hide hF
    have Hflt := hide hflt
    have Hfle := hide hfle
    have hii : (i : Int) < (n : Int) := by omega
    have hi0 : ¬ (i : Int) < 0 := by omega
    have He1 := hide e1
    have He2 := hide e2
    have He3 := hide e3
    have Hright := hide hright
    have b0 := N0.out.c 0 (v := .slice A n c) rfl
    clear hat e1 e2 e3 hF hflt hfle hDD hEE hright
    go_enter Tryz.func78, Tryz.ntmps78
    go_wp2_with fail
    refine Hat.out.mono ?_
    rintro e w2 ⟨rfl, hb2⟩
    obtain ⟨b, o, CA, cc, XA, xc, SA, sc, rfl, x0, x1, x2, x3, k1, k2, k3, r1, r2, hrows⟩ := (HW.out.below hb2).at_ i hin hiW
    rw [hUe] at x0 x1 x2 x3 k1 k2 k3 r1 r2 hrows
    have hfits := fits14_any U.s (.agg #[.string U.s.name, .slice CA U.s.cols.length cc, .slice XA U.s.ixs.length xc]) RA m rcap row w2 ⟨CA, cc, XA, xc, rfl, k1, k2, r1, r2⟩ Hright.out (Hrow.out.below hb2) Hm.out Hrs.out
    have htw := fun (hft : fitsB U.s row = true) (skip : Int) (W' : World) (hb : Below w2.heap.size w2 W') => twice_any U CA cc XA xc SA sc RA m rcap row skip W' (r2.below hb) (hrows.below hb) ((Hrow.out.below hb2).below hb) Hm.out (by have := ho.tw hUm hft; rwa [Hm.out] at this) (by have := (right_facts Hright.out).x3; omega) (by have := ho.n64 U hUm; omega)
    have hfind := fun (hft : fitsB U.s row = true) W' (hb : Below w2.heap.size w2 W') => find15_any SA U.rows.length sc U.rows (col row 0) W' (hrows.below hb) (ho.pos hUm) (fits_first Hright.out hft Hwf.out).2 (by have := ho.n64 U hUm; omega)
    rw [HF.out] at hfind
    simp only at hfind
    have hn64 := ho.n64 U hUm
    have hflt := Hflt.out
    have hfle := Hfle.out
    obtain ⟨rn, hrn⟩ : ∃ rn, U.rows.length = rn := ⟨_, rfl⟩
    obtain ⟨cn, hcn⟩ : ∃ cn, U.s.cols.length = cn := ⟨_, rfl⟩
    obtain ⟨xn, hxn⟩ : ∃ xn, U.s.ixs.length = xn := ⟨_, rfl⟩
    obtain ⟨un, hun⟩ : ∃ un, U.s.name = un := ⟨_, rfl⟩
    have he1 := He1.out
    rw [hrn] at x3 hfind hflt hfle hn64 htw k3
    rw [hcn] at x1 hfits htw
    rw [hxn] at x2 hfits htw
    rw [hun] at x0 hfits htw
    have Hrn := hide hrn
    have Htw := hide htw
    have Hfind := hide hfind
    have Hflt2 := hide hflt
    have Hfle2 := hide hfle
    have He12 := hide he1
    obtain ⟨fits, hfs⟩ : ∃ fits, fitsB U.s row = fits := ⟨_, rfl⟩
    rw [hfs] at hfits
    have Hfits := hide hfits
    have Hfs := hide hfs
    have HB2 := hide hb2
    have b0 := (N0.out.below hb2).c 0 (v := .slice (some ⟨b, o, none⟩) n c) rfl
    have X0 := hide x0
    have X1 := hide x1
    have X2 := hide x2
    have X3 := hide x3
    clear hrows hfits htw hfind hflt hfle he1 hrn hcn hxn hun hfs hb2 Hat r1 r2 k1 k2 He1 Hflt Hfle HF
    go_wp2_with fail
    refine Hfits.out.mono ?_
    rintro e w3 ⟨rfl, hb3⟩
    have HB3 := hide (below_then HB2.out HB2.out.size hb3)
    have Hb3 := hide hb3
    clear hb3 b0 x0 x1 x2 x3 Hfits
    cases fits with
    | false =>
      obtain rfl : EE = 62 := by rw [He12.out, Hfs.out]; rfl
      obtain rfl : DD = W := He2.out (by decide)
      clear He12 He2 He3
      simp only [cond_false]
      have m0 := N0.out.below HB3.out
      have m2 := N2.out.below HB3.out
      have b0 := m0.c 0 (v := .slice (some ⟨b, o, none⟩) n c) rfl
      have d2 := m2.c 0 (v := .slice none 0 0) rfl
      have f2 := m2.fr 0
      have r2 := (m2.set 0 (.slice (some ⟨b, o, none⟩) n c)).c 0 (v := .slice (some ⟨b, o, none⟩) n c) rfl
      have HBE := hide ((below_chain Ha2.out HB3.out).setCell (p := ⟨w.heap.size + 1, 0, none⟩) (by show w.heap.size ≤ w.heap.size + 1; omega) (.slice (some ⟨b, o, none⟩) n c))
      clear m0 m2
      go_wp2_with fail
      refine bodyPost_ret (v := .tuple #[.agg #[.slice (some ⟨b, o, none⟩) n c], .int .i64 62]) (by simp [results, Tryz.results78, go_sem, r2]) rfl ?_
      exact ⟨(some ⟨b, o, none⟩), n, c, rfl, HW0.out.below HBE.out, HBE.out⟩
    | true =>
      simp only [cond_true]
      have hfit := Hfs.out
      obtain ⟨hpos, hok⟩ := fits_first Hright.out hfit Hwf.out
      have Hok := hide hok
      obtain ⟨rb, ro, rfl, v0, v1, v2⟩ := Rd.col (r := row) (by rw [Hm.out]; exact Hrow.out.below HB3.out) 0 hpos
      rw [Nat.zero_mul, Nat.add_zero] at v0 v1 v2
      obtain ⟨key, hkey⟩ : ∃ key, col row 0 = key := ⟨_, rfl⟩
      rw [hkey] at v0 v1 v2 Hfind
      obtain ⟨kk, kn, ks⟩ := key
      dsimp only at v0 v1 v2
      have hfind2 : ∀ W', Below w3.heap.size w3 W' → Calls Tryz.prog 133 #[.slice SA rn sc, .agg #[.int .i64 kk, .int .i64 kn, .string ks]] W' fun e w' => e = .returned (.tuple #[.int .i64 fk, .bool fb]) ∧ Below W'.heap.size W' w' := fun W' hb => Hfind.out hfit W' (below_then Hb3.out Hb3.out.size hb)
      have htw2 := fun (skip : Int) (W' : World) (hb : Below w3.heap.size w3 W') => Htw.out hfit skip W' (below_then Hb3.out Hb3.out.size hb)
      have Hfind2 := hide hfind2
      have Htw2 := hide htw2
      have b0 := (N0.out.below HB3.out).c 0 (v := .slice (some ⟨b, o, none⟩) n c) rfl
      have x3 := X3.out.below Hb3.out
      have hm0 : (0 : Int) < (m : Int) := by have := Hm.out; omega
      have Hfit := hide hfit
      clear hfind2 htw2 Hfind Htw hkey hfit hok
      go_wp2_with fail
      refine wp_region_bel (by kernel_rfl) (by kernel_rfl) ?_
      intro X hX f hfb hfs
      have y3 : ∀ x, (f x).cell? ⟨b, o + i * 4 + 3, none⟩ = some (.slice SA rn sc) := fun x => x3.below (hfb x)
      have z0 : ∀ x, (f x).cell? ⟨w.heap.size, 0, none⟩ = some (.slice (some ⟨b, o, none⟩) n c) := fun x => b0.below (hfb x)
      have g0 : ∀ x, (f x).cell? ⟨rb, ro, none⟩ = some (.int .i64 kk) := fun x => v0.below (hfb x)
      have g1 : ∀ x, (f x).cell? ⟨rb, ro + 1, none⟩ = some (.int .i64 kn) := fun x => v1.below (hfb x)
      have g2 : ∀ x, (f x).cell? ⟨rb, ro + 2, none⟩ = some (.string ks) := fun x => v2.below (hfb x)
      repeat (go_big_quiet_step ((refine (Hfind2.out _ (hfb _)).mono ?_; rintro e w' ⟨rfl, hb⟩; exact ⟨rfl, hfs w' (below_then (hfb _) (hfb _).size hb)⟩)))
      refine wpQuiet_nil ?_
      rintro w4 ⟨x, rfl⟩
      have HB4 := hide (below_then HB3.out HB3.out.size (hfb x))
      have Hb4 := hide (hfb x)
      obtain ⟨w5, hw5⟩ : ∃ w5, f x = w5 := ⟨_, rfl⟩
      rw [hw5] at HB4 Hb4 ⊢
      clear hfs hw5 hfb g0 g1 g2 b0 x3 v0 v1 v2 y3 z0 Hfind2
      clear x f hX X
      cases fb with
      | false =>
        obtain rfl : EE = 4 := by rw [He12.out, Hfs.out]; rfl
        obtain rfl : DD = W := He2.out (by decide)
        clear He12 He2 He3
        have m0 := N0.out.below HB4.out
        have m2 := N2.out.below HB4.out
        have b0 := m0.c 0 (v := .slice (some ⟨b, o, none⟩) n c) rfl
        have d2 := m2.c 0 (v := .slice none 0 0) rfl
        have f2 := m2.fr 0
        have r2 := (m2.set 0 (.slice (some ⟨b, o, none⟩) n c)).c 0 (v := .slice (some ⟨b, o, none⟩) n c) rfl
        have HBE := hide ((below_chain Ha2.out HB4.out).setCell (p := ⟨w.heap.size + 1, 0, none⟩) (by show w.heap.size ≤ w.heap.size + 1; omega) (.slice (some ⟨b, o, none⟩) n c))
        clear m0 m2
        go_wp2_with fail
        refine bodyPost_ret (v := .tuple #[.agg #[.slice (some ⟨b, o, none⟩) n c], .int .i64 4]) (by simp [results, Tryz.results78, go_sem, r2]) rfl ?_
        exact ⟨(some ⟨b, o, none⟩), n, c, rfl, HW0.out.below HBE.out, HBE.out⟩
      | true =>
        have he1 : EE = if twB U row fk = true then 64 else 0 := by rw [He12.out, Hfs.out]; rfl
        have He14 := hide he1
        clear he1 He12
        have b0 := (N0.out.below HB4.out).c 0 (v := .slice (some ⟨b, o, none⟩) n c) rfl
        have x0 := (X0.out.below Hb3.out).below Hb4.out
        have x1 := (X1.out.below Hb3.out).below Hb4.out
        have x2 := (X2.out.below Hb3.out).below Hb4.out
        have x3 := (X3.out.below Hb3.out).below Hb4.out
        have htw := Htw2.out fk w5 Hb4.out
        obtain ⟨tw, htwb⟩ : ∃ tw, twB U row fk = tw := ⟨_, rfl⟩
        rw [htwb] at htw He14
        have Htw3 := hide htw
        clear htw htwb
        go_wp2_with fail
        refine Htw3.out.mono ?_
        rintro e w6 ⟨rfl, hb6⟩
        have HB6 := hide (below_then HB4.out HB4.out.size hb6)
        have Hb6 := hide (below_then Hb4.out Hb4.out.size hb6)
        clear hb6 b0 x0 x1 x2 x3 Htw3 Htw2
        cases tw with
        | true =>
          obtain rfl : EE = 64 := He14.out
          obtain rfl : DD = W := He2.out (by decide)
          clear He14 He2 He3
          have m0 := N0.out.below HB6.out
          have m2 := N2.out.below HB6.out
          have b0 := m0.c 0 (v := .slice (some ⟨b, o, none⟩) n c) rfl
          have d2 := m2.c 0 (v := .slice none 0 0) rfl
          have f2 := m2.fr 0
          have r2 := (m2.set 0 (.slice (some ⟨b, o, none⟩) n c)).c 0 (v := .slice (some ⟨b, o, none⟩) n c) rfl
          have HBE := hide ((below_chain Ha2.out HB6.out).setCell (p := ⟨w.heap.size + 1, 0, none⟩) (by show w.heap.size ≤ w.heap.size + 1; omega) (.slice (some ⟨b, o, none⟩) n c))
          clear m0 m2
          go_wp2_with fail
          refine bodyPost_ret (v := .tuple #[.agg #[.slice (some ⟨b, o, none⟩) n c], .int .i64 64]) (by simp [results, Tryz.results78, go_sem, r2]) rfl ?_
          exact ⟨(some ⟨b, o, none⟩), n, c, rfl, HW0.out.below HBE.out, HBE.out⟩
        | false =>
          obtain rfl : EE = 0 := He14.out
          obtain rfl := He3.out rfl
          clear He14 He2 He3
          have hfl := Hflt2.out (by first | trivial | rfl)
          have b0 := (N0.out.below HB6.out).c 0 (v := .slice (some ⟨b, o, none⟩) n c) rfl
          have hcop := copy15_any (some ⟨b, o, none⟩) n c W w w6 (below_chain Ha2.out HB6.out) HW0.out (by omega) ho.n64
          have Hcop := hide hcop
          clear hcop
          go_wp2_with fail
          refine Hcop.out.mono ?_
          rintro e w7 hco
          obtain ⟨A', c', xs, rfl, hcp, hb7⟩ := hco
          obtain ⟨g, RA', rc', sl, rfl, hMg, hgl, y3, hrc', hown, hent⟩ := hcp.at_ hin hU
          rw [Hrn.out] at y3 hrc' hown
          have hal := (Below.refl w7.heap.size w7).alloc (Nat.le_refl _) (.cells #[.slice (some ⟨g, 0, none⟩) n c'] 73)
          have nb := Blk.new w7 #[.slice (some ⟨g, 0, none⟩) n c'] 73
          have hcp8 := hcp.below hal
          have hown8 := own_below hown hal
          have y3 := y3.below hal
          have HB8 := hide (below_then HB6.out HB6.out.size (below_chain hb7 hal))
          have Hb8 := hide (show Below w6.heap.size w6 _ from below_chain hb7 hal)
          obtain ⟨w8, hw8⟩ : ∃ w8, w7.alloc (.cells #[.slice (some ⟨g, 0, none⟩) n c'] 73) = w8 := ⟨_, rfl⟩
          have hz8 : w8.heap.size = w7.heap.size + 1 := by rw [← hw8]; simp
          rw [hw8] at nb hcp8 hown8 y3 HB8 Hb8
          have hgne : w7.heap.size ≠ g := by omega
          obtain ⟨gr, rfl, hMr, hgrl⟩ := own_at hown8 (by omega)
          have hgrl7 : gr < w7.heap.size := by
            obtain ⟨gr', e, _, h1⟩ := own_at hown (by omega)
            injection e with e
            injection e with e _ _
            subst e
            exact h1
          have hgrne : w7.heap.size ≠ gr := by omega
          have z0 := nb.c 0 (v := .slice (some ⟨g, 0, none⟩) n c') rfl
          have HCp := hide hcp8
          have HOw := hide hown8
          have Nb := hide nb
          have Y3 := hide y3
          have z0h := hide z0
          have hki : (fk : Int) < (rn : Int) := by omega
          have hcpd := fun W' (hb : Below w8.heap.size w8 W') => copied_any (some ⟨rb, ro, none⟩) m rcap row W' Hm.out ((Hrow.out.below HB8.out).below hb) hm4
          have Hcpd := hide hcpd
          clear hcp hown hent hal hcp8 hown8 nb hb7 b0 Hcop hgl hcpd
          go_wp2_with fail
          refine wp_region_E 10 (fun w' => w'.cell? ⟨w7.heap.size, 0, none⟩ = some (.slice (some ⟨g, 0, none⟩) n c') ∧ w'.cell? ⟨g, i * 4 + 3, none⟩ = some (.slice (some ⟨gr, 0, none⟩) rn rc')) (by kernel_rfl) ?_
          have hH : _ ∧ _ := ⟨z0, y3⟩
          refine wpAnyE_take (i := 0) (v := ?_) (by kernel_rfl) rfl (by kernel_rfl) (by kernel_rfl) (by kernel_rfl) (fun _ _ _ h => h) (by rfl) hH ?_ ?_
          rotate_left
          · (rintro w' ⟨s0, s1⟩; go_simp; try with_reducible rfl)
          simp only [Act.put, List.setIfInBounds_toArray, List.set_cons_zero, List.set_cons_succ, List.getElem_toArray, List.getElem_cons_zero, List.getElem_cons_succ]
          refine wpAnyE_take (i := 1) (v := ?_) (by kernel_rfl) rfl (by kernel_rfl) (by kernel_rfl) (by kernel_rfl) (fun _ _ _ h => h) (by rfl) hH ?_ ?_
          rotate_left
          · (rintro w' ⟨s0, s1⟩; go_simp; try with_reducible rfl)
          simp only [Act.put, List.setIfInBounds_toArray, List.set_cons_zero, List.set_cons_succ, List.getElem_toArray, List.getElem_cons_zero, List.getElem_cons_succ]
          refine wpAnyE_take (i := 2) (v := ?_) (by kernel_rfl) rfl (by kernel_rfl) (by kernel_rfl) (by kernel_rfl) (fun _ _ _ h => h) (by rfl) hH ?_ ?_
          rotate_left
          · (rintro w' ⟨s0, s1⟩; go_simp; try with_reducible rfl)
          simp only [Act.put, List.setIfInBounds_toArray, List.set_cons_zero, List.set_cons_succ, List.getElem_toArray, List.getElem_cons_zero, List.getElem_cons_succ]
          refine wpAnyE_take (i := 3) (v := ?_) (by kernel_rfl) rfl (by kernel_rfl) (by kernel_rfl) (by kernel_rfl) (fun _ _ _ h => h) (by rfl) hH ?_ ?_
          rotate_left
          · (rintro w' ⟨s0, s1⟩; go_simp; try with_reducible rfl)
          simp only [Act.put, List.setIfInBounds_toArray, List.set_cons_zero, List.set_cons_succ, List.getElem_toArray, List.getElem_cons_zero, List.getElem_cons_succ]
          refine wpAnyE_take (i := 4) (v := ?_) (by kernel_rfl) rfl (by kernel_rfl) (by kernel_rfl) (by kernel_rfl) (fun _ _ _ h => h) (by rfl) hH ?_ ?_
          rotate_left
          · (rintro w' ⟨s0, s1⟩; go_simp; try with_reducible rfl)
          simp only [Act.put, List.setIfInBounds_toArray, List.set_cons_zero, List.set_cons_succ, List.getElem_toArray, List.getElem_cons_zero, List.getElem_cons_succ]
          refine wpAnyE_take (i := 5) (v := ?_) (by kernel_rfl) rfl (by kernel_rfl) (by kernel_rfl) (by kernel_rfl) (fun _ _ _ h => h) (by rfl) hH ?_ ?_
          rotate_left
          · (rintro w' ⟨s0, s1⟩; go_simp; try with_reducible rfl)
          simp only [Act.put, List.setIfInBounds_toArray, List.set_cons_zero, List.set_cons_succ, List.getElem_toArray, List.getElem_cons_zero, List.getElem_cons_succ]
          refine wpAnyE_take (i := 6) (v := ?_) (by kernel_rfl) rfl (by kernel_rfl) (by kernel_rfl) (by kernel_rfl) (fun _ _ _ h => h) (by rfl) hH ?_ ?_
          rotate_left
          · (rintro w' ⟨s0, s1⟩; go_simp; try with_reducible rfl)
          simp only [Act.put, List.setIfInBounds_toArray, List.set_cons_zero, List.set_cons_succ, List.getElem_toArray, List.getElem_cons_zero, List.getElem_cons_succ]
          refine wpAnyE_take (i := 7) (v := ?_) (by kernel_rfl) rfl (by kernel_rfl) (by kernel_rfl) (by kernel_rfl) (fun _ _ _ h => h) (by rfl) hH ?_ ?_
          rotate_left
          · (rintro w' ⟨s0, s1⟩; go_simp; try with_reducible rfl)
          simp only [Act.put, List.setIfInBounds_toArray, List.set_cons_zero, List.set_cons_succ, List.getElem_toArray, List.getElem_cons_zero, List.getElem_cons_succ]
          refine wpAnyE_one (i := 8) (by kernel_rfl) rfl (by rfl) fun K hK => ?_
          go_simp
          refine (Hcpd.out _ ((Below.refl _ _).drew)).mono ?_
          rintro e w9 ⟨AR, cR, rfl, hownR, hb9⟩
          have hb89 : Below w8.heap.size w8 w9 := undrewd hb9
          have hH : _ ∧ _ := ⟨z0h.out.below hb89, Y3.out.below hb89⟩
          dsimp only
          refine hK _ _ (.inr hH) ?_
          clear hK K
          try simp only [Act.put, List.setIfInBounds_toArray, List.set_cons_zero, List.set_cons_succ, List.getElem_toArray, List.getElem_cons_zero, List.getElem_cons_succ]
          refine wpAnyE_one (i := 9) (by kernel_rfl) rfl (by rfl) fun K hK => ?_
          go_simp
          refine hK _ _ (.inr hH) ?_
          clear hK K
          try simp only [Act.put, List.setIfInBounds_toArray, List.set_cons_zero, List.set_cons_succ, List.getElem_toArray, List.getElem_cons_zero, List.getElem_cons_succ]
          have hkb : w.heap.size + 1 < w6.heap.size := Nat.lt_of_lt_of_le N2.out.lt HB6.out.size
          have hkg : w.heap.size + 1 ≠ gr := by omega
          have hcp9 := HCp.out.below hb89
          have how9 := own_below HOw.out hb89
          have hq1 : ∃ v, C w9 gr fk v := ⟨_, (how9.cellAt fk (by omega)).trans (List.getElem?_eq_getElem (by have := own_len how9; omega))⟩
          obtain ⟨vold, q1⟩ := hq1
          have q2 : w9.frozen? ⟨gr, fk, none⟩ = false := how9.frozenAt _
          have hcpT := hcp9.set (a := ⟨w.heap.size + 1, 0, none⟩) hkb (.slice (some ⟨g, 0, none⟩) n c')
          have hMs : w6.heap.size ≤ w8.heap.size := Hb8.out.size
          have hra : RowAt F w6.heap.size w w9 AR cR row := ⟨.inr (by rw [Hm.out]; exact own_mono hownR hMs), by rw [Hm.out]; omega⟩
          have hraT := hra.set (a := ⟨w.heap.size + 1, 0, none⟩) hkb (.slice (some ⟨g, 0, none⟩) n c')
          have hb19 : Below W1.heap.size W1 w9 := below_then HB8.out HB8.out.size hb89
          have hbwT : Below w.heap.size w (w9.setCell ⟨w.heap.size + 1, 0, none⟩ (.slice (some ⟨g, 0, none⟩) n c')) := (below_chain Ha2.out hb19).setCell (p := ⟨w.heap.size + 1, 0, none⟩) (by show w.heap.size ≤ w.heap.size + 1; omega) _
          obtain ⟨g', gr', RA9, rc9, hg', q0, _, _, _, q4, q5⟩ := hcpT.dbr_row (show W.length = n from Hl.out) (Nat.le_trans Ha2.out.size HB6.out.size) hbwT (fun b hb => Nat.lt_of_lt_of_le (HFo.out b hb) (Nat.le_trans Ha2.out.size HB6.out.size)) hU (k := fk) (by rw [Hrn.out]; exact hfl) hraT
          injection hg' with hg'
          injection hg' with hg' _ _
          subst hg'
          have hy9 := (World.cell?_of_block (w := w9) (w' := w9.setCell ⟨w.heap.size + 1, 0, none⟩ (.slice (some ⟨g, 0, none⟩) n c')) (a := ⟨g, i * 4 + 3, none⟩) (Below.heap_setCell w9 ⟨w.heap.size + 1, 0, none⟩ (.slice (some ⟨g, 0, none⟩) n c') g (by show g ≠ w.heap.size + 1; omega))).trans hH.2
          unfold C at q0
          rw [hy9] at q0
          injection q0 with q0
          injection q0 with q0 _ _
          injection q0 with q0
          injection q0 with q0 _ _
          subst q0
          rw [Hm.out] at q4 q5
          have e9 := setCell_comm w9 ⟨w.heap.size + 1, 0, none⟩ ⟨gr, fk, none⟩ (.slice (some ⟨g, 0, none⟩) n c') (.slice AR m cR) (by exact hkg)
          rw [e9] at q4 q5
          have m2 := (N2.out.below hb19).set_other (a := ⟨gr, fk, none⟩) (by exact hkg) (.slice AR m cR)
          have d10 := m2.c 0 (v := .slice none 0 0) rfl
          have f10 := m2.fr 0
          have r10 := (m2.set 0 (.slice (some ⟨g, 0, none⟩) n c')).c 0 (v := .slice (some ⟨g, 0, none⟩) n c') rfl
          have z10 := ((Nb.out.below hb89).set_other (a := ⟨gr, fk, none⟩) (by exact hgrne) (.slice AR m cR)).c 0 (v := .slice (some ⟨g, 0, none⟩) n c') rfl
          have Q4 := hide q4
          have Q5 := hide q5
          clear q4 q5 hcpT hcp9 e9 m2 hb19 hbwT hra hraT how9 hownR hy9
          refine wpAnyE_one (i := 10) (by kernel_rfl) rfl (by rfl) fun K hK => ?_
          go_simp
          refine hK _ _ (.inl rfl) ?_
          clear hK K
          try simp only [Act.put, List.setIfInBounds_toArray, List.set_cons_zero, List.set_cons_succ, List.getElem_toArray, List.getElem_cons_zero, List.getElem_cons_succ]
          refine wpAnyE_done (by kernel_rfl) ?_ _
          go_wp2_with fail
          all_goals
            refine bodyPost_ret (v := .tuple #[.agg #[.slice (some ⟨g, 0, none⟩) n c'], .int .i64 0]) (by simp [results, Tryz.results78, go_sem, r10]) rfl ?_
            exact ⟨some ⟨g, 0, none⟩, n, c', rfl, Q4.out, Q5.out⟩
end Go.Proofs.YtekokogmnhlchaaGreatDoor
