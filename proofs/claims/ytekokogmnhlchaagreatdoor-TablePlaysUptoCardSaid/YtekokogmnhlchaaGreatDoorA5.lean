import Derived.Test.YtekokogmnhlchaaGreatDoorA4
import Derived.Lib.ConvBytes
set_option linter.unusedSimpArgs false
set_option linter.unusedVariables false
set_option linter.unusedSectionVars false
namespace Go.Proofs.YtekokogmnhlchaaGreatDoor
open Go.RowKit
def fitV (i : Nat) (v : V) (c : Col) : Bool := decide (rightV v = 0) && (!(i == 0 && v.k == 0) && ((v.k == 0 || v.k == c.kind) && !(v.k == 2 && decide (c.max < nRunes v.s))))
def goFits : Nat → List V → List Col → Bool
  | _, [], _ => true
  | i, v :: r, c :: cs => fitV i v c && goFits (i + 1) r cs
  | _, _ :: _, [] => false
def fitsB (s : Sch) (row : List V) : Bool := decide (row.length = s.cols.length) && goFits 0 row s.cols
set_option maxHeartbeats 4000000 in
set_option maxRecDepth 1000000 in
theorem fits_any (s : Sch) (sv : Value) (A : Option Addr) (n c : Nat) (row : List V) (w : World) (h : SchV w s sv) (hs : s.small) (hr : rightS s = true) (hrow : Rd w 3 A n (rowCells row)) (hn : row.length = n) (hrs : ∀ v ∈ row, v.s.size ≤ 9223372036854775807) (hT : Tabs w) :
    Calls Tryz.prog 60 #[sv, .slice A n c] w fun e w' => e = .returned (.int .i64 (cond (fitsB s row) 0 62)) ∧ Below w.heap.size w w' := by
  obtain ⟨CA, cc, XA, xc, rfl, hc1, hc2, hC, hX⟩ := h
  have hrt := fun (W : World) (hb : Below w.heap.size w W) => rightS_any s (.agg #[.string s.name, .slice CA s.cols.length cc, .slice XA s.ixs.length xc]) W ⟨CA, cc, XA, xc, rfl, hc1, hc2, hC.below hb, hX.below hb⟩ hs
  rw [hr] at hrt
  obtain ⟨nm, cols, ixs⟩ := s
  simp only at *
  obtain ⟨R, hR⟩ : ∃ R, (cond (fitsB ⟨nm, cols, ixs⟩ row) (0 : Int) 62) = R := ⟨_, rfl⟩
  rw [hR]
  obtain ⟨cn, hcn⟩ : ∃ m, cols.length = m := ⟨_, rfl⟩
  obtain ⟨xn, hxn⟩ : ∃ m, ixs.length = m := ⟨_, rfl⟩
  rw [hcn] at hC hrt ⊢
  rw [hxn] at hrt ⊢
  have hn3 : n ≤ 3 ∨ n ≠ cn := by
    by_cases h : n = cn
    · left
      simp only [rightS, preS, Bool.and_eq_true, decide_eq_true_eq] at hr
      have := hr.1.2.2.1
      omega
    exact .inr h
  have HR := hide hR
  have HC := hide hC
  have Hrow := hide hrow
  have Hrs := hide hrs
  have HT := hide hT
  have Hrt := hide hrt
  clear hR hC hX hrow hrs hT hrt hr hs hc1 hc2 hxn
  have q0 := C.new w #[.string nm, .slice CA cn cc, .slice XA xn xc] 25 0 (v := .string nm) rfl
  have q1 := C.new w #[.string nm, .slice CA cn cc, .slice XA xn xc] 25 1 (v := .slice CA cn cc) rfl
  have q2 := C.new w #[.string nm, .slice CA cn cc, .slice XA xn xc] 25 2 (v := .slice XA xn xc) rfl
  go_enter Tryz.func60, Tryz.ntmps60
  go_wp2_with fail
  refine (Hrt.out _ ((Below.refl _ _).alloc (Nat.le_refl _) _)).mono ?_
  rintro e w1 ⟨rfl, hb⟩
  have q1 := q1.below hb
  have hb := below_chain ((Below.refl _ _).alloc (Nat.le_refl _) _) hb
  have Hb := hide hb
  clear hb q0 q2 Hrt
  by_cases hcc : (n : Int) = (cn : Int)
  rotate_left
  · have h62 : R = 62 := by
      rw [← HR.out, fitsB]
      have : ¬ row.length = cols.length := by omega
      simp [this]
    have t1 : ((n : Int) == (cn : Int)) = false := by simpa using hcc
    go_wp2
    go_ret
    exact ⟨ret_int h62.symm, Hb.out⟩
  have hnc : n = cn := by omega
  subst hnc
  have hn3 : n ≤ 3 := by omega
  have HR2 : Hid ((cond (goFits 0 row cols) (0 : Int) 62) = R) := hide (by rw [← HR.out, fitsB]; simp [hn, hcn])
  clear HR hcc
  go_wp2_with fail
  go_loopw [22] (fun i wr => ∃ k : Nat, k ≤ n ∧ i = .int .i64 k ∧ Hid (goFits k (row.drop k) (cols.drop k) = goFits 0 row cols) ∧ Hid (Below w1.heap.size w1 wr)) (fun i _ => n - (intOf i).toNat)
  case atStart => exact ⟨0, Nat.zero_le _, rfl, hide (by simp), hide (Below.refl _ _)⟩
  case round =>
    obtain ⟨k, hk, rfl, HG, HB⟩ := hrel
    have hbw := below_chain Hb.out HB.out
    have q1 := q1.below HB.out
    by_cases hlt : k < n
    rotate_left
    · have h0 : R = 0 := by
        have h1 := HG.out
        rw [List.drop_of_length_le (by omega)] at h1
        rw [← HR2.out, ← h1]
        rfl
      go_wp2
      go_ret
      exact ⟨ret_int h0.symm, below_chain Hb.out HB.out⟩
    obtain ⟨b, o, rfl, e0, e1, e2⟩ := Row.cells (l := row) (by rw [hn]; exact Hrow.out.below hbw) k (by omega)
    obtain ⟨b2, o2, rfl, hcs⟩ := (HC.out.below hbw).struct Col.cells_len cols hcn k (by omega)
    have hvm : row[k] ∈ row := List.getElem_mem _
    have hdr : row.drop k = row[k] :: row.drop (k + 1) := by simp
    have hdc : cols.drop k = cols[k] :: cols.drop (k + 1) := by simp
    generalize row[k] = v at *
    generalize cols[k] = cl at *
    obtain ⟨vk, vn, vs⟩ := v
    obtain ⟨cs, ck, cm⟩ := cl
    simp only at e0 e1 e2
    have d0 : C wr b2 (o2 + k * 3) (.string cs) := hcs 0 (by omega)
    have d1 : C wr b2 (o2 + k * 3 + 1) (.int .i64 ck) := hcs 1 (by omega)
    have d2 : C wr b2 (o2 + k * 3 + 2) (.int .i64 cm) := hcs 2 (by omega)
    have hg := HG.out
    rw [hdr, hdc, goFits] at hg
    have Hg := hide hg
    have hss := Hrs.out _ hvm
    simp only at hss
    have HTr := hide (HT.out.below hbw)
    clear hcs hdr hdc hg hvm HG
    let O1 : Obj := .cells #[.int .i64 vk, .int .i64 vn, .string vs] 28
    let O2 : Obj := .cells #[.string cs, .int .i64 ck, .int .i64 cm] 49
    have q1a := q1.alloc (.cells #[.int .i64 vk, .int .i64 vn, .string vs] 28)
    have d0 := d0.alloc (.cells #[.int .i64 vk, .int .i64 vn, .string vs] 28)
    have d1 := d1.alloc (.cells #[.int .i64 vk, .int .i64 vn, .string vs] 28)
    have d2 := d2.alloc (.cells #[.int .i64 vk, .int .i64 vn, .string vs] 28)
    have hba : Below wr.heap.size wr ((wr.alloc (.cells #[.int .i64 vk, .int .i64 vn, .string vs] 28)).alloc (.cells #[.string cs, .int .i64 ck, .int .i64 cm] 49)) := ((Below.refl _ _).alloc (Nat.le_refl _) _).alloc (by simp) _
    have n0 := (C.new wr #[.int .i64 vk, .int .i64 vn, .string vs] 28 0 (v := .int .i64 vk) rfl).alloc (.cells #[.string cs, .int .i64 ck, .int .i64 cm] 49)
    have n1 := (C.new wr #[.int .i64 vk, .int .i64 vn, .string vs] 28 1 (v := .int .i64 vn) rfl).alloc (.cells #[.string cs, .int .i64 ck, .int .i64 cm] 49)
    have n2 := (C.new wr #[.int .i64 vk, .int .i64 vn, .string vs] 28 2 (v := .string vs) rfl).alloc (.cells #[.string cs, .int .i64 ck, .int .i64 cm] 49)
    have m1 := C.new (wr.alloc (.cells #[.int .i64 vk, .int .i64 vn, .string vs] 28)) #[.string cs, .int .i64 ck, .int .i64 cm] 49 1 (v := .int .i64 ck) rfl
    have m2 := C.new (wr.alloc (.cells #[.int .i64 vk, .int .i64 vn, .string vs] 28)) #[.string cs, .int .i64 ck, .int .i64 cm] 49 2 (v := .int .i64 cm) rfl
    have hcon := right_any ⟨vk, vn, vs⟩ ((wr.alloc (.cells #[.int .i64 vk, .int .i64 vn, .string vs] 28)).alloc (.cells #[.string cs, .int .i64 ck, .int .i64 cm] 49)) hss (HTr.out.below hba)
    have Hba := hide hba
    clear hba
    obtain ⟨rv, hrv⟩ : ∃ r, rightV ⟨vk, vn, vs⟩ = r := ⟨_, rfl⟩
    rw [hrv] at hcon
    have Hrv := hide hrv
    clear hrv
    go_wp2_with fail
    refine hcon.mono ?_
    rintro e w2 ⟨rfl, hb2⟩
    have p0 := n0.below hb2
    have p1 := n1.below hb2
    have p2 := n2.below hb2
    have r1 := m1.below hb2
    have r2 := m2.below hb2
    rw [show (wr.alloc (.cells #[.int .i64 vk, .int .i64 vn, .string vs] 28)).heap.size = wr.heap.size + 1 by simp] at r1 r2
    clear n0 n1 n2 m1 m2 hcon
    have hb3 := below_chain Hba.out hb2
    have hb4 := below_then HB.out HB.out.size hb3
    have Hb4 := hide hb4
    have hT2 := hide (HTr.out.below hb3)
    clear hb2 hb3 hb4 e0 e1 e2 d0 d1 d2 q1a Hba HTr
    by_cases hrv0 : rv = 0
    rotate_left
    · have h62 : R = 62 := by rw [← HR2.out, ← Hg.out]; simp [fitV, Hrv.out, hrv0]
      have t1 : (rv != 0) = true := by simpa using hrv0
      go_wp2
      go_ret
      exact ⟨ret_int h62.symm, below_chain Hb.out Hb4.out⟩
    subst hrv0
    by_cases hk0 : k = 0 ∧ vk = 0
    · obtain ⟨rfl, rfl⟩ := hk0
      have h62 : R = 62 := by rw [← HR2.out, ← Hg.out]; simp [fitV]
      go_wp2
      go_ret
      exact ⟨ret_int h62.symm, below_chain Hb.out Hb4.out⟩
    by_cases hvk : vk ≠ 0 ∧ vk ≠ ck
    · obtain ⟨a1, a2⟩ := hvk
      have t1 : (vk == 0) = false := by simpa using a1
      have t2 : (vk == ck) = false := by simpa using a2
      have h62 : R = 62 := by rw [← HR2.out, ← Hg.out]; simp [fitV, t1, t2]
      have t3 : (vk != 0) = true := by simpa using a1
      have t4 : (vk != ck) = true := by simpa using a2
      clear a1 a2
      by_cases hkz : (k : Int) = 0
      · go_wp2
        go_ret
        exact ⟨ret_int h62.symm, below_chain Hb.out Hb4.out⟩
      go_wp2
      go_ret
      exact ⟨ret_int h62.symm, below_chain Hb.out Hb4.out⟩
    have hh : True := trivial
    have hst : (vk == 0 || vk == ck) = true := by
      simp only [Bool.or_eq_true, beq_iff_eq]; omega
    have hst0 : (!(k == 0 && vk == 0)) = true := by
      simp only [Bool.not_eq_true', Bool.and_eq_false_iff, beq_eq_false_iff_ne]; omega
    by_cases hv2 : vk = 2
    rotate_left
    · have t2 : (vk == 2) = false := by simpa using hv2
      have hg2 : goFits (k + 1) (row.drop (k + 1)) (cols.drop (k + 1)) = goFits 0 row cols := by
        rw [← Hg.out, fitV, Hrv.out]; simp only [hst, hst0, t2]; simp
      have Hg2 := hide hg2
      clear hg2 hst hst0
      by_cases hv0 : vk = 0
      · subst hv0
        have hkz : ¬ (k : Int) = 0 := by omega
        go_wp2_with fail
        go_quiet (fail)
        go_wp2
        go_roundw
        case rel => exact ⟨k + 1, hlt, by go_num, Hg2, hide (below_drewN Hb4.out nq)⟩
        case measure => simp [intOf]; omega
      have hck : vk = ck := by omega
      subst hck
      have t0 : (vk == 0) = false := by simpa using hv0
      have t1 : (vk != 0) = true := by simpa using hv0
      by_cases hkz : (k : Int) = 0
      · go_wp2_with fail
        go_quiet (fail)
        go_wp2
        go_roundw
        case rel => exact ⟨k + 1, hlt, by go_num, Hg2, hide (below_drewN Hb4.out nq)⟩
        case measure => simp [intOf]; omega
      go_wp2_with fail
      go_quiet (fail)
      go_wp2
      go_roundw
      case rel => exact ⟨k + 1, hlt, by go_num, Hg2, hide (below_drewN Hb4.out nq)⟩
      case measure => simp [intOf]; omega
    subst hv2
    have hck : ck = 2 := by omega
    subst hck
    obtain ⟨nr, hnr⟩ : ∃ r, nRunes vs = r := ⟨_, rfl⟩
    have Hnr := hide hnr
    clear hnr
    have hT3 := hide (hT2.out.below (Below.refl _ _).drew)
    have hg2 : (decide (cm < nr) = false) → goFits (k + 1) (row.drop (k + 1)) (cols.drop (k + 1)) = goFits 0 row cols := by
      intro hcm
      rw [← Hg.out, fitV, Hrv.out]; simp only [hst, hst0, Hnr.out, hcm]; simp
    have hg3 : (decide (cm < nr) = true) → R = 62 := by
      intro hcm
      rw [← HR2.out, ← Hg.out, fitV, Hrv.out]; simp only [Hnr.out, hcm]; simp
    have Hg2 := hide hg2
    have Hg3 := hide hg3
    clear hg2 hg3 hst hst0 hT2
    by_cases hkz : (k : Int) = 0
    · go_wp2_with fail
      go_region_held3 (fun w' => w'.cell? ⟨wr.heap.size, 0, none⟩ = some (.int .i64 2) ∧ w'.cell? ⟨wr.heap.size, 2, none⟩ = some (.string vs) ∧ w'.cell? ⟨wr.heap.size + 1, 2, none⟩ = some (.int .i64 cm))
        ((first | (go_keep; done) | exact ⟨p0.below (undrewd hb5), p2.below (undrewd hb5), r2.below (undrewd hb5)⟩))
        ((go_at_call 114; refine (runes_any vs _ hss hT3.out).mono ?_; rintro e w3 ⟨rfl, hb5⟩))
      rw [Hnr.out]
      have hb6 := below_then Hb4.out Hb4.out.size (undrewd hb5)
      by_cases hcm : cm < nr
      · have h62 := Hg3.out (by simpa using hcm)
        go_wp2
        go_ret
        exact ⟨ret_int h62.symm, below_chain Hb.out hb6⟩
      have Hg4 := hide (Hg2.out (by simpa using hcm))
      go_wp2
      go_roundw
      case rel => exact ⟨k + 1, hlt, by go_num, Hg4, hide hb6⟩
      case measure => simp [intOf]; omega
    go_wp2_with fail
    go_region_held3 (fun w' => w'.cell? ⟨wr.heap.size, 0, none⟩ = some (.int .i64 2) ∧ w'.cell? ⟨wr.heap.size, 2, none⟩ = some (.string vs) ∧ w'.cell? ⟨wr.heap.size + 1, 2, none⟩ = some (.int .i64 cm))
      ((first | (go_keep; done) | exact ⟨p0.below (undrewd hb5), p2.below (undrewd hb5), r2.below (undrewd hb5)⟩))
      ((go_at_call 114; refine (runes_any vs _ hss hT3.out).mono ?_; rintro e w3 ⟨rfl, hb5⟩))
    rw [Hnr.out]
    have hb6 := below_then Hb4.out Hb4.out.size (undrewd hb5)
    by_cases hcm : cm < nr
    · have h62 := Hg3.out (by simpa using hcm)
      go_wp2
      go_ret
      exact ⟨ret_int h62.symm, below_chain Hb.out hb6⟩
    have Hg4 := hide (Hg2.out (by simpa using hcm))
    go_wp2
    go_roundw
    case rel => exact ⟨k + 1, hlt, by go_num, Hg4, hide hb6⟩
    case measure => simp [intOf]; omega
theorem bytes_below (w : World) (e : TypeId) (s : ByteArray) : Below w.heap.size w (Lib.bytesWorld w e s) := ⟨by simp [Lib.bytesWorld, World.freeze]; rfl, by simp [Lib.bytesWorld, World.freeze], by simp [Lib.bytesWorld, World.freeze]; rfl, by rw [Lib.bytesWorld_size]; omega, fun k hk => Lib.bytesWorld_at_old w e s k hk⟩
theorem run_conv (w : World) (s : ByteArray) : ∃ A c w', (convert 9 105 (.string s)).run Tryz.prog w = .ok (.slice A s.size c) w' ∧ RB w' A s.size s.data.toList ∧ Below w.heap.size w w' ∧ s.size ≤ c := by
  refine ⟨_, _, _, Lib.run_convert_string_bytes w 9 105 5 s Tryz.underlying9 Tryz.underlying105 Tryz.underlying5, ?_, bytes_below w 5 s, ?_⟩
  · refine ⟨by rw [bys_length, ← size_len, Nat.mul_one], .inr ⟨_, _, rfl, fun j hj => ?_⟩⟩
    simp only [bys_length, ← size_len] at hj
    rw [Nat.zero_add, Lib.bytesWorld_cell w 5 s j hj, bys_get _ _ (by rw [← size_len]; exact hj)]
    simp [List.getD_eq_getElem?_getD, List.getElem?_eq_getElem (show j < s.data.toList.length by rw [← size_len]; exact hj)]
  exact grownCap_ge w s.size 0 5
theorem conv_rule (s : ByteArray) : ∃ (fc : World → Nat) (fw : World → World), (∀ W, (convert 9 105 (.string s)).run Tryz.prog W = .ok (.slice (some ⟨W.heap.size, 0, none⟩) s.size (fc W)) (fw W)) ∧ ∀ W, RB (fw W) (some ⟨W.heap.size, 0, none⟩) s.size s.data.toList ∧ Below W.heap.size W (fw W) ∧ s.size ≤ fc W ∧ W.heap.size < (fw W).heap.size := by
  refine ⟨fun W => grownCap W s.size 0 5, fun W => Lib.bytesWorld W 5 s, fun W => Lib.run_convert_string_bytes W 9 105 5 s Tryz.underlying9 Tryz.underlying105 Tryz.underlying5, fun W => ⟨?_, bytes_below W 5 s, grownCap_ge W s.size 0 5, by rw [Lib.bytesWorld_size]; omega⟩⟩
  refine ⟨by rw [bys_length, ← size_len, Nat.mul_one], .inr ⟨_, _, rfl, fun j hj => ?_⟩⟩
  simp only [bys_length, ← size_len] at hj
  rw [Nat.zero_add, Lib.bytesWorld_cell W 5 s j hj, bys_get _ _ (by rw [← size_len]; exact hj)]
  simp [List.getD_eq_getElem?_getD, List.getElem?_eq_getElem (show j < s.data.toList.length by rw [← size_len]; exact hj)]
def encB (b : ByteArray) : List UInt8 := UInt8.ofNat b.size :: b.data.toList
def encC (c : Col) : List UInt8 := encB c.name ++ [UInt8.ofNat c.kind.toNat, UInt8.ofNat c.max.toNat]
def encX (x : Ix) : List UInt8 := [UInt8.ofNat x.col.toNat, cond x.uniq 1 0]
def encS (s : Sch) : List UInt8 := encB s.name ++ [UInt8.ofNat s.cols.length] ++ s.cols.flatMap encC ++ [UInt8.ofNat s.ixs.length] ++ s.ixs.flatMap encX
theorem low_width (l : List UInt8) (h : low (Lib.decodeL l).1 = true) : (Lib.decodeL l).2 = 1 := by
  simp only [low, Bool.and_eq_true, decide_eq_true_eq] at h
  obtain ⟨h1, h2⟩ := h
  rw [Lib.decodeL_N] at *
  rcases Lib.decodeN_shape l.length (l.getD 0 0).toNat (l.getD 1 0).toNat (l.getD 2 0).toNat (l.getD 3 0).toNat with h | h | h | h | h
  · rw [h.2]
  · rw [h.2.2.2.2] at h2; simp only at h2; omega
  · rw [h.2.2.2.2.2.2] at h2; simp only at h2; omega
  · rw [h.2.2.2.2.2.2.2] at h2; simp only at h2; omega
  rw [h] at h2; simp only at h2; omega
theorem low_len : ∀ (n : Nat) (l : List UInt8), l.length ≤ n → (runesL l).all low = true → (runesL l).length = l.length
  | 0, l, h, _ => by
    have : l = [] := List.eq_nil_of_length_eq_zero (by omega)
    subst this; rfl
  | n + 1, l, h, ha => by
    by_cases hl : l = []
    · subst hl; rfl
    rw [runesL_step l hl] at ha ⊢
    simp only [List.all_cons, Bool.and_eq_true] at ha
    have hw := low_width l ha.1
    have hp : 0 < l.length := List.length_pos_iff.2 hl
    rw [List.length_cons, low_len n _ (by rw [List.length_drop]; omega) ha.2, List.length_drop, hw]
    omega
theorem name_size {s : ByteArray} (h : nameB s = true) : 1 ≤ s.size ∧ s.size ≤ 8 := by
  simp only [nameB, nameRest, Bool.and_eq_true, decide_eq_true_eq] at h
  have := low_len _ _ (Nat.le_refl _) h.1.1
  rw [size_len]
  omega
theorem goCols_all : ∀ (pre l : List Col), goCols pre l = true → ∀ c ∈ l, colB c = true
  | _, [], _, c, hc => by simp at hc
  | pre, c :: r, h, x, hx => by
    simp only [goCols, Bool.and_eq_true] at h
    rcases List.mem_cons.1 hx with rfl | hx
    · exact h.2.1
    exact goCols_all _ r h.2.2 x hx
theorem goIxs_all (n : Nat) : ∀ (pre l : List Ix), goIxs n pre l = true → ∀ x ∈ l, 1 ≤ x.col ∧ x.col < n
  | _, [], _, c, hc => by simp at hc
  | pre, c :: r, h, x, hx => by
    simp only [goIxs, Bool.and_eq_true, decide_eq_true_eq] at h
    rcases List.mem_cons.1 hx with rfl | hx
    · exact ⟨h.2.1, h.2.2.1⟩
    exact goIxs_all n _ r h.2.2.2 x hx
theorem colB_facts {c : Col} (h : colB c = true) : nameB c.name = true ∧ 1 ≤ c.kind ∧ c.kind ≤ 3 ∧ 0 ≤ c.max ∧ c.max ≤ 8 := by
  unfold colB at h
  split at h
  · simp only [Bool.and_eq_true, decide_eq_true_eq] at h
    exact ⟨h.1.1, by omega, by omega, by omega, by omega⟩
  split at h
  · simp only [Bool.and_eq_true, decide_eq_true_eq] at h
    exact ⟨h.1, by omega, by omega, by omega, by omega⟩
  cases h
structure RightF (s : Sch) : Prop where
  nm : nameB s.name = true
  c1 : 1 ≤ s.cols.length
  c3 : s.cols.length ≤ 3
  x3 : s.ixs.length ≤ 3
  cs : ∀ c ∈ s.cols, colB c = true
  xs : ∀ x ∈ s.ixs, 1 ≤ x.col ∧ x.col < s.cols.length
theorem right_facts {s : Sch} (h : rightS s = true) : RightF s := by
  simp only [rightS, preS, Bool.and_eq_true, decide_eq_true_eq] at h
  obtain ⟨⟨a, b, c, d⟩, e, f⟩ := h
  exact ⟨a, b, c, d, goCols_all _ _ e, goIxs_all _ _ _ f⟩
theorem encB_len (b : ByteArray) : (encB b).length = 1 + b.size := by simp [encB]; omega
theorem u8_small (x : Int) (h : 0 ≤ x) (h1 : x < 256) : Value.int .u8 x = Value.int .u8 ((UInt8.ofNat x.toNat).toNat : Int) := by
  rw [ofNat_cell]; congr 1; omega
end Go.Proofs.YtekokogmnhlchaaGreatDoor
