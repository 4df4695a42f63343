import Derived.Test.YtekokogmnhlchaaGreatDoorE6
import Derived.Deep.CutBlock
import Derived.Deep.RegionHeld3
set_option linter.unusedSimpArgs false
set_option linter.unusedVariables false
set_option linter.unusedSectionVars false
namespace Go.Proofs.YtekokogmnhlchaaGreatDoor
open Go.RowKit
theorem col_size {c : Col} (h : colB c = true) : c.name.size ≤ 8 := by
  rw [colB_eq] at h
  simp only [Bool.and_eq_true] at h
  exact (name_size h.1).2
theorem right14_of (s : Sch) (a : Value) (w : World) (ha : SchV w s a) (hs : rightS s = true) : Calls Tryz.prog 129 #[a] w fun e w' => e = .returned (.bool true) ∧ Below w.heap.size w w' := by
  have h := right_facts hs
  have h1 := (name_size h.nm).2
  have := right14_any s a w ha (by omega) (fun c hc => by have := col_size (h.cs c hc); omega) (by have := h.c3; omega) (by have := h.x3; omega)
  rwa [hs] at this
set_option maxHeartbeats 16000000 in
set_option maxRecDepth 1000000 in
theorem fits14_any (s : Sch) (sv : Value) (A : Option Addr) (n c : Nat) (row : List V) (w : World) (h : SchV w s sv) (hr : rightS s = true) (hrow : Rd w 3 A n (rowCells row)) (hn : row.length = n) (hrs : ∀ v ∈ row, v.s.size ≤ 100000000) :
    Calls Tryz.prog 132 #[sv, .slice A n c] w fun e w' => e = .returned (.int .i64 (cond (fitsB s row) 0 62)) ∧ Below w.heap.size w w' := by
  obtain ⟨CA, cc, XA, xc, rfl, hc1, hc2, hC, hX⟩ := h
  have hrt := fun (W : World) (hb : Below w.heap.size w W) => right14_of s (.agg #[.string s.name, .slice CA s.cols.length cc, .slice XA s.ixs.length xc]) W ⟨CA, cc, XA, xc, rfl, hc1, hc2, hC.below hb, hX.below hb⟩ hr
  obtain ⟨nm, cols, ixs⟩ := s
  simp only at *
  obtain ⟨R, hR⟩ : ∃ R, (cond (fitsB ⟨nm, cols, ixs⟩ row) (0 : Int) 62) = R := ⟨_, rfl⟩
  rw [hR]
  obtain ⟨cn, hcn⟩ : ∃ m, cols.length = m := ⟨_, rfl⟩
  obtain ⟨xn, hxn⟩ : ∃ m, ixs.length = m := ⟨_, rfl⟩
  rw [hcn] at hC hrt ⊢
  rw [hxn] at hrt ⊢
  have hn3 : n ≤ 3 ∨ n ≠ cn := by
    by_cases h : n = cn
    · left
      have := (right_facts hr).c3
      simp only at this
      omega
    exact .inr h
  have ha0 := (Below.refl w.heap.size w).alloc (Nat.le_refl _) (.cells #[.string nm, .slice CA cn cc, .slice XA xn xc] 25)
  have n0 := Blk.new w #[.string nm, .slice CA cn cc, .slice XA xn xc] 25
  obtain ⟨kb, hkb⟩ : ∃ kb, w.heap.size = kb := ⟨_, rfl⟩
  obtain ⟨W1, hW1⟩ : ∃ W1, w.alloc (.cells #[.string nm, .slice CA cn cc, .slice XA xn xc] 25) = W1 := ⟨_, rfl⟩
  rw [hW1] at ha0 n0
  have HR := hide hR
  have HC := hide (hC.below ha0)
  have Hrow := hide (hrow.below ha0)
  have Hrs := hide hrs
  have Hrt := hide (hrt W1 ha0)
  have Ha0 := hide ha0
  have N0 := hide n0
  have Hkb := hide hkb
  have b0 := N0.out.c 0 (v := .string nm) rfl
  have b1 := N0.out.c 1 (v := .slice CA cn cc) rfl
  have b2 := N0.out.c 2 (v := .slice XA xn xc) rfl
  rw [hkb] at b0 b1 b2
  clear hR hC hX hrow hrs hrt hr hc1 hc2 hxn ha0 n0
  go_enter Tryz.func132, Tryz.ntmps132
  go_wp2_with fail
  rw [hkb] at N0
  clear hkb hW1
  refine Hrt.out.mono ?_
  rintro e w1 ⟨rfl, hb⟩
  have HB1 := hide (below_chain Ha0.out hb)
  have N1 := hide (N0.out.below hb)
  have HC1 := hide (HC.out.below hb)
  have Hrow1 := hide (Hrow.out.below hb)
  have q1 := N1.out.c 1 (v := .slice CA cn cc) rfl
  clear hb Hrt N0 HC Hrow Ha0 b0 b1 b2
  by_cases hcc : (n : Int) = (cn : Int)
  rotate_left
  · have h62 : R = 62 := by
      rw [← HR.out, fitsB]
      have : decide (row.length = cols.length) = false := by simp only [decide_eq_false_iff_not]; omega
      simp only [this, Bool.false_and]
      rfl
    have t1 : ((n : Int) != (cn : Int)) = true := by simpa using hcc
    go_wp2_with fail
    go_ret
    exact ⟨ret_int h62.symm, HB1.out⟩
  have hnc : n = cn := by omega
  subst hnc
  have hn3 : n ≤ 3 := by omega
  have HR2 : Hid ((cond (goFits 0 row cols) (0 : Int) 62) = R) := hide (by rw [← HR.out, fitsB]; simp [hn, hcn])
  clear HR hcc
  go_wp2_with fail
  clear q1
  go_loopw [5] (fun i wr => ∃ k : Nat, k ≤ n ∧ i = .int .i64 k ∧ Hid (goFits k (row.drop k) (cols.drop k) = goFits 0 row cols) ∧ Hid (Below w1.heap.size w1 wr)) (fun i _ => n - (intOf i).toNat)
  case atStart => exact ⟨0, Nat.zero_le _, rfl, hide (by simp), hide (Below.refl _ _)⟩
  case round =>
    obtain ⟨k, hk, rfl, HG, HB⟩ := hrel
    have q1 := (N1.out.below HB.out).c 1 (v := .slice CA n cc) rfl
    by_cases hlt : k < n
    rotate_left
    · have hke : k = n := by omega
      subst hke
      have h0 : R = 0 := by
        have := HG.out
        rw [List.drop_of_length_le (by omega), goFits] at this
        rw [← HR2.out, ← this]
        rfl
      have hki : ¬ (k : Int) < (k : Int) := by omega
      go_wp2_with fail
      go_ret
      exact ⟨rfl, below_chain HB1.out HB.out⟩
    obtain ⟨b, o, rfl, e0, e1, e2⟩ := Row.cells (l := row) (by rw [hn]; exact Hrow1.out.below HB.out) k (by omega)
    obtain ⟨b2, o2, rfl, hcs⟩ := (HC1.out.below HB.out).struct Col.cells_len cols hcn k (by omega)
    have hvm : row[k] ∈ row := List.getElem_mem _
    have hdr : row.drop k = row[k] :: row.drop (k + 1) := by simp
    have hdc : cols.drop k = cols[k] :: cols.drop (k + 1) := by simp
    generalize row[k] = v at *
    generalize cols[k] = cl at *
    obtain ⟨vk, vn, vs⟩ := v
    obtain ⟨cs, ck, cm⟩ := cl
    simp only at e0 e1 e2
    have d0 : C wr b2 (o2 + k * 3) (.string cs) := hcs 0 (by omega)
    have d1 : C wr b2 (o2 + k * 3 + 1) (.int .i64 ck) := hcs 1 (by omega)
    have d2 : C wr b2 (o2 + k * 3 + 2) (.int .i64 cm) := hcs 2 (by omega)
    have hg := HG.out
    rw [hdr, hdc, goFits] at hg
    have hss := Hrs.out _ hvm
    simp only at hss
    have hright := fun (W : World) => right2_any ⟨vk, vn, vs⟩ W hss
    have hrun := fun (W : World) => runes2_any vs W hss
    obtain ⟨rv, hrv⟩ : ∃ r, rightV ⟨vk, vn, vs⟩ = r := ⟨_, rfl⟩
    obtain ⟨nr, hnr⟩ : ∃ r, nRunes vs = r := ⟨_, rfl⟩
    rw [hrv] at hright
    rw [hnr] at hrun
    simp only [fitV, hrv, hnr] at hg
    have Hg := hide hg
    have Hright := hide hright
    have Hrun := hide hrun
    have hki : (k : Int) < (n : Int) := by omega
    have hNe := World.new_ne wr
    have y0 := World.new_ne wr ⟨b, o + k * 3, none⟩ e0
    have y1 := World.new_ne wr ⟨b, o + k * 3 + 1, none⟩ e1
    have y2 := World.new_ne wr ⟨b, o + k * 3 + 2, none⟩ e2
    have z0 := World.new_ne wr ⟨b2, o2 + k * 3, none⟩ d0
    have z1 := World.new_ne wr ⟨b2, o2 + k * 3 + 1, none⟩ d1
    have z2 := World.new_ne wr ⟨b2, o2 + k * 3 + 2, none⟩ d2
    clear hcs hdr hdc hg hvm HG hss hright hrun hrv hnr hNe
    go_upto_region 9 with fail
    go_cut [6, 7] (fun t6 t7 wx => ∃ b6 b7, t6 = .pointer (some ⟨b6, 0, none⟩) ∧ t7 = .pointer (some ⟨b7, 0, none⟩) ∧ Hid (Blk wx b6 #[.int .i64 vk, .int .i64 vn, .string vs] 28) ∧ Hid (Blk wx b7 #[.string cs, .int .i64 ck, .int .i64 cm] 49) ∧ Hid (Below w1.heap.size w1 wx))
    case first =>
      go_region_held3 (fun w' => w'.cell? ⟨b, o + k * 3, none⟩ = some (.int .i64 vk) ∧ w'.cell? ⟨b, o + k * 3 + 1, none⟩ = some (.int .i64 vn) ∧ w'.cell? ⟨b, o + k * 3 + 2, none⟩ = some (.string vs) ∧ w'.cell? ⟨kb, 1, none⟩ = some (.slice (some ⟨b2, o2, none⟩) n cc) ∧ w'.cell? ⟨b2, o2 + k * 3, none⟩ = some (.string cs) ∧ w'.cell? ⟨b2, o2 + k * 3 + 1, none⟩ = some (.int .i64 ck) ∧ w'.cell? ⟨b2, o2 + k * 3 + 2, none⟩ = some (.int .i64 cm)) (go_keep) (fail)
      all_goals
        go_wp2_with fail
        go_meet
        first
          | exact ⟨_, _, rfl, rfl, hide (((Blk.new wr #[.int .i64 vk, .int .i64 vn, .string vs] 28).alloc (.cells #[.string cs, .int .i64 ck, .int .i64 cm] 49)).drew), hide (by have h := Blk.new (wr.alloc (.cells #[.int .i64 vk, .int .i64 vn, .string vs] 28)) #[.string cs, .int .i64 ck, .int .i64 cm] 49; rw [show (wr.alloc (.cells #[.int .i64 vk, .int .i64 vn, .string vs] 28)).heap.size = wr.heap.size + 1 by simp] at h; exact h.drew), hide (below_then HB.out HB.out.size (((Below.refl _ _).alloc (Nat.le_refl _) _).alloc (by simp) _).drew)⟩
          | exact ⟨_, _, rfl, rfl, hide (by have h := Blk.new (wr.alloc (.cells #[.string cs, .int .i64 ck, .int .i64 cm] 49)) #[.int .i64 vk, .int .i64 vn, .string vs] 28; rw [show (wr.alloc (.cells #[.string cs, .int .i64 ck, .int .i64 cm] 49)).heap.size = wr.heap.size + 1 by simp] at h; exact h.drew), hide (((Blk.new wr #[.string cs, .int .i64 ck, .int .i64 cm] 49).alloc (.cells #[.int .i64 vk, .int .i64 vn, .string vs] 28)).drew), hide (below_then HB.out HB.out.size (((Below.refl _ _).alloc (Nat.le_refl _) _).alloc (by simp) _).drew)⟩
    case rest =>
      obtain ⟨b6, b7, rfl, rfl, H6, H7, HB2⟩ := hcut
      obtain ⟨W8, hW8⟩ : ∃ W, W = wc := ⟨_, rfl⟩
      subst hW8
      have p0 := H6.out.c 0 (v := .int .i64 vk) rfl
      have p1 := H6.out.c 1 (v := .int .i64 vn) rfl
      have p2 := H6.out.c 2 (v := .string vs) rfl
      have r1 := H7.out.c 1 (v := .int .i64 ck) rfl
      have r2 := H7.out.c 2 (v := .int .i64 cm) rfl
      clear e0 e1 e2 d0 d1 d2 q1 y0 y1 y2 z0 z1 z2 HB H6 H7
      by_cases hrv0 : rv = 0
      rotate_left
      · have h62 : R = 62 := by rw [← HR2.out, ← Hg.out]; simp [hrv0]
        have t1 : (rv != 0) = true := by simpa using hrv0
        go_wp2_with fail
        refine wp_region_bel (by kernel_rfl) (by kernel_rfl) ?_
        intro X hX f hfb hfs
        have g0 : ∀ x, (f x).cell? ⟨b6, 0, none⟩ = some (.int .i64 vk) := fun x => p0.below (hfb x)
        have g1 : ∀ x, (f x).cell? ⟨b6, 1, none⟩ = some (.int .i64 vn) := fun x => p1.below (hfb x)
        have g2 : ∀ x, (f x).cell? ⟨b6, 2, none⟩ = some (.string vs) := fun x => p2.below (hfb x)
        repeat (go_big_quiet_step ((refine (Hright.out _).mono ?_; rintro e w' ⟨rfl, hb⟩; exact ⟨rfl, hfs w' (below_then (hfb _) (hfb _).size hb)⟩)))
        refine wpQuiet_nil ?_
        rintro w4 ⟨x, rfl⟩
        have HB4 := hide (below_then HB2.out HB2.out.size (hfb x))
        clear g0 g1 g2
        go_wp2_with fail
        go_ret
        exact ⟨ret_int h62.symm, below_chain HB1.out HB4.out⟩
      subst hrv0
      by_cases hk0 : k = 0 ∧ vk = 0
      · obtain ⟨rfl, rfl⟩ := hk0
        have h62 : R = 62 := by rw [← HR2.out, ← Hg.out]; simp
        by_cases hc0 : ck = 0
        · subst hc0
          go_wp2_with fail
          refine wp_region_bel (by kernel_rfl) (by kernel_rfl) ?_
          intro X hX f hfb hfs
          have g0 : ∀ x, (f x).cell? ⟨b6, 0, none⟩ = some (.int .i64 0) := fun x => p0.below (hfb x)
          have g1 : ∀ x, (f x).cell? ⟨b6, 1, none⟩ = some (.int .i64 vn) := fun x => p1.below (hfb x)
          have g2 : ∀ x, (f x).cell? ⟨b6, 2, none⟩ = some (.string vs) := fun x => p2.below (hfb x)
          have u1 : ∀ x, (f x).cell? ⟨b7, 1, none⟩ = some (.int .i64 0) := fun x => r1.below (hfb x)
          have u2 : ∀ x, (f x).cell? ⟨b7, 2, none⟩ = some (.int .i64 cm) := fun x => r2.below (hfb x)
          repeat (go_big_quiet_step ((first
            | (refine (Hright.out _).mono ?_; rintro e w' ⟨rfl, hb⟩; exact ⟨rfl, hfs w' (below_then (hfb _) (hfb _).size hb)⟩)
            | (refine (Hrun.out _).mono ?_; rintro e w' ⟨rfl, hb⟩; exact ⟨rfl, hfs w' (below_then (hfb _) (hfb _).size hb)⟩))))
          refine wpQuiet_nil ?_
          rintro w4 ⟨x, rfl⟩
          have HB4 := hide (below_then HB2.out HB2.out.size (hfb x))
          clear g0 g1 g2 u1 u2
          go_wp2_with fail
          go_ret
          exact ⟨ret_int h62.symm, below_chain HB1.out HB4.out⟩
        have t1 : ((0 : Int) != ck) = true := by simpa using fun e => hc0 e.symm
        go_wp2_with fail
        refine wp_region_bel (by kernel_rfl) (by kernel_rfl) ?_
        intro X hX f hfb hfs
        have g0 : ∀ x, (f x).cell? ⟨b6, 0, none⟩ = some (.int .i64 0) := fun x => p0.below (hfb x)
        have g1 : ∀ x, (f x).cell? ⟨b6, 1, none⟩ = some (.int .i64 vn) := fun x => p1.below (hfb x)
        have g2 : ∀ x, (f x).cell? ⟨b6, 2, none⟩ = some (.string vs) := fun x => p2.below (hfb x)
        have u1 : ∀ x, (f x).cell? ⟨b7, 1, none⟩ = some (.int .i64 ck) := fun x => r1.below (hfb x)
        have u2 : ∀ x, (f x).cell? ⟨b7, 2, none⟩ = some (.int .i64 cm) := fun x => r2.below (hfb x)
        repeat (go_big_quiet_step ((first
          | (refine (Hright.out _).mono ?_; rintro e w' ⟨rfl, hb⟩; exact ⟨rfl, hfs w' (below_then (hfb _) (hfb _).size hb)⟩)
          | (refine (Hrun.out _).mono ?_; rintro e w' ⟨rfl, hb⟩; exact ⟨rfl, hfs w' (below_then (hfb _) (hfb _).size hb)⟩))))
        refine wpQuiet_nil ?_
        rintro w4 ⟨x, rfl⟩
        have HB4 := hide (below_then HB2.out HB2.out.size (hfb x))
        clear g0 g1 g2 u1 u2
        go_wp2_with fail
        go_ret
        exact ⟨ret_int h62.symm, below_chain HB1.out HB4.out⟩
      by_cases hvk : vk ≠ 0 ∧ vk ≠ ck
      · obtain ⟨a1, a2⟩ := hvk
        have t1 : (vk == 0) = false := by simpa using a1
        have t2 : (vk == ck) = false := by simpa using a2
        have h62 : R = 62 := by rw [← HR2.out, ← Hg.out]; simp [t1, t2]
        have t3 : (vk != 0) = true := by simpa using a1
        have t4 : (vk != ck) = true := by simpa using a2
        clear a1 a2
        go_wp2_with fail
        refine wp_region_bel (by kernel_rfl) (by kernel_rfl) ?_
        intro X hX f hfb hfs
        have g0 : ∀ x, (f x).cell? ⟨b6, 0, none⟩ = some (.int .i64 vk) := fun x => p0.below (hfb x)
        have g1 : ∀ x, (f x).cell? ⟨b6, 1, none⟩ = some (.int .i64 vn) := fun x => p1.below (hfb x)
        have g2 : ∀ x, (f x).cell? ⟨b6, 2, none⟩ = some (.string vs) := fun x => p2.below (hfb x)
        have u1 : ∀ x, (f x).cell? ⟨b7, 1, none⟩ = some (.int .i64 ck) := fun x => r1.below (hfb x)
        have u2 : ∀ x, (f x).cell? ⟨b7, 2, none⟩ = some (.int .i64 cm) := fun x => r2.below (hfb x)
        repeat (go_big_quiet_step ((first
          | (refine (Hright.out _).mono ?_; rintro e w' ⟨rfl, hb⟩; exact ⟨rfl, hfs w' (below_then (hfb _) (hfb _).size hb)⟩)
          | (refine (Hrun.out _).mono ?_; rintro e w' ⟨rfl, hb⟩; exact ⟨rfl, hfs w' (below_then (hfb _) (hfb _).size hb)⟩))))
        refine wpQuiet_nil ?_
        rintro w4 ⟨x, rfl⟩
        have HB4 := hide (below_then HB2.out HB2.out.size (hfb x))
        clear g0 g1 g2 u1 u2
        go_wp2_with fail
        go_ret
        exact ⟨ret_int h62.symm, below_chain HB1.out HB4.out⟩
      have hst : (vk == 0 || vk == ck) = true := by
        simp only [Bool.or_eq_true, beq_iff_eq]; omega
      have hst0 : (!(k == 0 && vk == 0)) = true := by
        simp only [Bool.not_eq_true', Bool.and_eq_false_iff, beq_eq_false_iff_ne]; omega
      by_cases hv2 : vk = 2
      · subst hv2
        have hck : ck = 2 := by omega
        subst hck
        by_cases hcm : cm < nr
        · have h62 : R = 62 := by rw [← HR2.out, ← Hg.out]; simp [hcm]
          have tcm : decide (cm < nr) = true := by simpa using hcm
          clear hst hst0
          by_cases hkz : (k : Int) = 0
          · have tk : ((k : Int) == 0) = true := by simpa using hkz
            go_wp2_with fail
            refine wp_region_bel (by kernel_rfl) (by kernel_rfl) ?_
            intro X hX f hfb hfs
            have g0 : ∀ x, (f x).cell? ⟨b6, 0, none⟩ = some (.int .i64 2) := fun x => p0.below (hfb x)
            have g1 : ∀ x, (f x).cell? ⟨b6, 1, none⟩ = some (.int .i64 vn) := fun x => p1.below (hfb x)
            have g2 : ∀ x, (f x).cell? ⟨b6, 2, none⟩ = some (.string vs) := fun x => p2.below (hfb x)
            have u1 : ∀ x, (f x).cell? ⟨b7, 1, none⟩ = some (.int .i64 2) := fun x => r1.below (hfb x)
            have u2 : ∀ x, (f x).cell? ⟨b7, 2, none⟩ = some (.int .i64 cm) := fun x => r2.below (hfb x)
            repeat (go_big_quiet_step ((first
              | (refine (Hright.out _).mono ?_; rintro e w' ⟨rfl, hb⟩; exact ⟨rfl, hfs w' (below_then (hfb _) (hfb _).size hb)⟩)
              | (refine (Hrun.out _).mono ?_; rintro e w' ⟨rfl, hb⟩; exact ⟨rfl, hfs w' (below_then (hfb _) (hfb _).size hb)⟩))))
            refine wpQuiet_nil ?_
            rintro w4 ⟨x, rfl⟩
            have HB4 := hide (below_then HB2.out HB2.out.size (hfb x))
            clear g0 g1 g2 u1 u2
            go_wp2_with fail
            go_ret
            exact ⟨ret_int h62.symm, below_chain HB1.out HB4.out⟩
          have tk : ((k : Int) == 0) = false := by simpa using hkz
          go_wp2_with fail
          refine wp_region_bel (by kernel_rfl) (by kernel_rfl) ?_
          intro X hX f hfb hfs
          have g0 : ∀ x, (f x).cell? ⟨b6, 0, none⟩ = some (.int .i64 2) := fun x => p0.below (hfb x)
          have g1 : ∀ x, (f x).cell? ⟨b6, 1, none⟩ = some (.int .i64 vn) := fun x => p1.below (hfb x)
          have g2 : ∀ x, (f x).cell? ⟨b6, 2, none⟩ = some (.string vs) := fun x => p2.below (hfb x)
          have u1 : ∀ x, (f x).cell? ⟨b7, 1, none⟩ = some (.int .i64 2) := fun x => r1.below (hfb x)
          have u2 : ∀ x, (f x).cell? ⟨b7, 2, none⟩ = some (.int .i64 cm) := fun x => r2.below (hfb x)
          repeat (go_big_quiet_step ((first
            | (refine (Hright.out _).mono ?_; rintro e w' ⟨rfl, hb⟩; exact ⟨rfl, hfs w' (below_then (hfb _) (hfb _).size hb)⟩)
            | (refine (Hrun.out _).mono ?_; rintro e w' ⟨rfl, hb⟩; exact ⟨rfl, hfs w' (below_then (hfb _) (hfb _).size hb)⟩))))
          refine wpQuiet_nil ?_
          rintro w4 ⟨x, rfl⟩
          have HB4 := hide (below_then HB2.out HB2.out.size (hfb x))
          clear g0 g1 g2 u1 u2
          go_wp2_with fail
          go_ret
          exact ⟨ret_int h62.symm, below_chain HB1.out HB4.out⟩
        have tcm : decide (cm < nr) = false := by simpa using hcm
        have HG2 : Hid (goFits (k + 1) (row.drop (k + 1)) (cols.drop (k + 1)) = goFits 0 row cols) := hide (by rw [← Hg.out]; simp only [hst, hst0, tcm]; simp)
        clear hst hst0
        by_cases hkz : (k : Int) = 0
        · have tk : ((k : Int) == 0) = true := by simpa using hkz
          go_wp2_with fail
          refine wp_region_bel (by kernel_rfl) (by kernel_rfl) ?_
          intro X hX f hfb hfs
          have g0 : ∀ x, (f x).cell? ⟨b6, 0, none⟩ = some (.int .i64 2) := fun x => p0.below (hfb x)
          have g1 : ∀ x, (f x).cell? ⟨b6, 1, none⟩ = some (.int .i64 vn) := fun x => p1.below (hfb x)
          have g2 : ∀ x, (f x).cell? ⟨b6, 2, none⟩ = some (.string vs) := fun x => p2.below (hfb x)
          have u1 : ∀ x, (f x).cell? ⟨b7, 1, none⟩ = some (.int .i64 2) := fun x => r1.below (hfb x)
          have u2 : ∀ x, (f x).cell? ⟨b7, 2, none⟩ = some (.int .i64 cm) := fun x => r2.below (hfb x)
          repeat (go_big_quiet_step ((first
            | (refine (Hright.out _).mono ?_; rintro e w' ⟨rfl, hb⟩; exact ⟨rfl, hfs w' (below_then (hfb _) (hfb _).size hb)⟩)
            | (refine (Hrun.out _).mono ?_; rintro e w' ⟨rfl, hb⟩; exact ⟨rfl, hfs w' (below_then (hfb _) (hfb _).size hb)⟩))))
          refine wpQuiet_nil ?_
          rintro w4 ⟨x, rfl⟩
          have HB4 := hide (below_then HB2.out HB2.out.size (hfb x))
          clear g0 g1 g2 u1 u2
          go_wp2_with fail
          exact ⟨⟨k + 1, hlt, by go_num, HG2, HB4⟩, by simp [intOf]; omega⟩
        have tk : ((k : Int) == 0) = false := by simpa using hkz
        go_wp2_with fail
        refine wp_region_bel (by kernel_rfl) (by kernel_rfl) ?_
        intro X hX f hfb hfs
        have g0 : ∀ x, (f x).cell? ⟨b6, 0, none⟩ = some (.int .i64 2) := fun x => p0.below (hfb x)
        have g1 : ∀ x, (f x).cell? ⟨b6, 1, none⟩ = some (.int .i64 vn) := fun x => p1.below (hfb x)
        have g2 : ∀ x, (f x).cell? ⟨b6, 2, none⟩ = some (.string vs) := fun x => p2.below (hfb x)
        have u1 : ∀ x, (f x).cell? ⟨b7, 1, none⟩ = some (.int .i64 2) := fun x => r1.below (hfb x)
        have u2 : ∀ x, (f x).cell? ⟨b7, 2, none⟩ = some (.int .i64 cm) := fun x => r2.below (hfb x)
        repeat (go_big_quiet_step ((first
          | (refine (Hright.out _).mono ?_; rintro e w' ⟨rfl, hb⟩; exact ⟨rfl, hfs w' (below_then (hfb _) (hfb _).size hb)⟩)
          | (refine (Hrun.out _).mono ?_; rintro e w' ⟨rfl, hb⟩; exact ⟨rfl, hfs w' (below_then (hfb _) (hfb _).size hb)⟩))))
        refine wpQuiet_nil ?_
        rintro w4 ⟨x, rfl⟩
        have HB4 := hide (below_then HB2.out HB2.out.size (hfb x))
        clear g0 g1 g2 u1 u2
        go_wp2_with fail
        exact ⟨⟨k + 1, hlt, by go_num, HG2, HB4⟩, by simp [intOf]; omega⟩
      have t2 : (vk == 2) = false := by simpa using hv2
      have HG2 : Hid (goFits (k + 1) (row.drop (k + 1)) (cols.drop (k + 1)) = goFits 0 row cols) := hide (by rw [← Hg.out]; simp only [hst, hst0, t2]; simp)
      clear hst hst0
      by_cases hv0 : vk = 0
      · subst hv0
        have hkz : ¬ (k : Int) = 0 := by omega
        have tk : ((k : Int) == 0) = false := by simpa using hkz
        by_cases hc0 : ck = 0
        · subst hc0
          go_wp2_with fail
          refine wp_region_bel (by kernel_rfl) (by kernel_rfl) ?_
          intro X hX f hfb hfs
          have g0 : ∀ x, (f x).cell? ⟨b6, 0, none⟩ = some (.int .i64 0) := fun x => p0.below (hfb x)
          have g1 : ∀ x, (f x).cell? ⟨b6, 1, none⟩ = some (.int .i64 vn) := fun x => p1.below (hfb x)
          have g2 : ∀ x, (f x).cell? ⟨b6, 2, none⟩ = some (.string vs) := fun x => p2.below (hfb x)
          have u1 : ∀ x, (f x).cell? ⟨b7, 1, none⟩ = some (.int .i64 0) := fun x => r1.below (hfb x)
          have u2 : ∀ x, (f x).cell? ⟨b7, 2, none⟩ = some (.int .i64 cm) := fun x => r2.below (hfb x)
          repeat (go_big_quiet_step ((first
            | (refine (Hright.out _).mono ?_; rintro e w' ⟨rfl, hb⟩; exact ⟨rfl, hfs w' (below_then (hfb _) (hfb _).size hb)⟩)
            | (refine (Hrun.out _).mono ?_; rintro e w' ⟨rfl, hb⟩; exact ⟨rfl, hfs w' (below_then (hfb _) (hfb _).size hb)⟩))))
          refine wpQuiet_nil ?_
          rintro w4 ⟨x, rfl⟩
          have HB4 := hide (below_then HB2.out HB2.out.size (hfb x))
          clear g0 g1 g2 u1 u2
          go_wp2_with fail
          exact ⟨⟨k + 1, hlt, by go_num, HG2, HB4⟩, by simp [intOf]; omega⟩
        have t1 : ((0 : Int) != ck) = true := by simpa using fun e => hc0 e.symm
        go_wp2_with fail
        refine wp_region_bel (by kernel_rfl) (by kernel_rfl) ?_
        intro X hX f hfb hfs
        have g0 : ∀ x, (f x).cell? ⟨b6, 0, none⟩ = some (.int .i64 0) := fun x => p0.below (hfb x)
        have g1 : ∀ x, (f x).cell? ⟨b6, 1, none⟩ = some (.int .i64 vn) := fun x => p1.below (hfb x)
        have g2 : ∀ x, (f x).cell? ⟨b6, 2, none⟩ = some (.string vs) := fun x => p2.below (hfb x)
        have u1 : ∀ x, (f x).cell? ⟨b7, 1, none⟩ = some (.int .i64 ck) := fun x => r1.below (hfb x)
        have u2 : ∀ x, (f x).cell? ⟨b7, 2, none⟩ = some (.int .i64 cm) := fun x => r2.below (hfb x)
        repeat (go_big_quiet_step ((first
          | (refine (Hright.out _).mono ?_; rintro e w' ⟨rfl, hb⟩; exact ⟨rfl, hfs w' (below_then (hfb _) (hfb _).size hb)⟩)
          | (refine (Hrun.out _).mono ?_; rintro e w' ⟨rfl, hb⟩; exact ⟨rfl, hfs w' (below_then (hfb _) (hfb _).size hb)⟩))))
        refine wpQuiet_nil ?_
        rintro w4 ⟨x, rfl⟩
        have HB4 := hide (below_then HB2.out HB2.out.size (hfb x))
        clear g0 g1 g2 u1 u2
        go_wp2_with fail
        exact ⟨⟨k + 1, hlt, by go_num, HG2, HB4⟩, by simp [intOf]; omega⟩
      have hck : vk = ck := by omega
      subst hck
      have t0 : (vk == 0) = false := by simpa using hv0
      have t1 : (vk != 0) = true := by simpa using hv0
      by_cases hkz : (k : Int) = 0
      · have tk : ((k : Int) == 0) = true := by simpa using hkz
        go_wp2_with fail
        refine wp_region_bel (by kernel_rfl) (by kernel_rfl) ?_
        intro X hX f hfb hfs
        have g0 : ∀ x, (f x).cell? ⟨b6, 0, none⟩ = some (.int .i64 vk) := fun x => p0.below (hfb x)
        have g1 : ∀ x, (f x).cell? ⟨b6, 1, none⟩ = some (.int .i64 vn) := fun x => p1.below (hfb x)
        have g2 : ∀ x, (f x).cell? ⟨b6, 2, none⟩ = some (.string vs) := fun x => p2.below (hfb x)
        have u1 : ∀ x, (f x).cell? ⟨b7, 1, none⟩ = some (.int .i64 vk) := fun x => r1.below (hfb x)
        have u2 : ∀ x, (f x).cell? ⟨b7, 2, none⟩ = some (.int .i64 cm) := fun x => r2.below (hfb x)
        repeat (go_big_quiet_step ((first
          | (refine (Hright.out _).mono ?_; rintro e w' ⟨rfl, hb⟩; exact ⟨rfl, hfs w' (below_then (hfb _) (hfb _).size hb)⟩)
          | (refine (Hrun.out _).mono ?_; rintro e w' ⟨rfl, hb⟩; exact ⟨rfl, hfs w' (below_then (hfb _) (hfb _).size hb)⟩))))
        refine wpQuiet_nil ?_
        rintro w4 ⟨x, rfl⟩
        have HB4 := hide (below_then HB2.out HB2.out.size (hfb x))
        clear g0 g1 g2 u1 u2
        go_wp2_with fail
        exact ⟨⟨k + 1, hlt, by go_num, HG2, HB4⟩, by simp [intOf]; omega⟩
      have tk : ((k : Int) == 0) = false := by simpa using hkz
      go_wp2_with fail
      refine wp_region_bel (by kernel_rfl) (by kernel_rfl) ?_
      intro X hX f hfb hfs
      have g0 : ∀ x, (f x).cell? ⟨b6, 0, none⟩ = some (.int .i64 vk) := fun x => p0.below (hfb x)
      have g1 : ∀ x, (f x).cell? ⟨b6, 1, none⟩ = some (.int .i64 vn) := fun x => p1.below (hfb x)
      have g2 : ∀ x, (f x).cell? ⟨b6, 2, none⟩ = some (.string vs) := fun x => p2.below (hfb x)
      have u1 : ∀ x, (f x).cell? ⟨b7, 1, none⟩ = some (.int .i64 vk) := fun x => r1.below (hfb x)
      have u2 : ∀ x, (f x).cell? ⟨b7, 2, none⟩ = some (.int .i64 cm) := fun x => r2.below (hfb x)
      repeat (go_big_quiet_step ((first
        | (refine (Hright.out _).mono ?_; rintro e w' ⟨rfl, hb⟩; exact ⟨rfl, hfs w' (below_then (hfb _) (hfb _).size hb)⟩)
        | (refine (Hrun.out _).mono ?_; rintro e w' ⟨rfl, hb⟩; exact ⟨rfl, hfs w' (below_then (hfb _) (hfb _).size hb)⟩))))
      refine wpQuiet_nil ?_
      rintro w4 ⟨x, rfl⟩
      have HB4 := hide (below_then HB2.out HB2.out.size (hfb x))
      clear g0 g1 g2 u1 u2
      go_wp2_with fail
      exact ⟨⟨k + 1, hlt, by go_num, HG2, HB4⟩, by simp [intOf]; omega⟩
end Go.Proofs.YtekokogmnhlchaaGreatDoor
