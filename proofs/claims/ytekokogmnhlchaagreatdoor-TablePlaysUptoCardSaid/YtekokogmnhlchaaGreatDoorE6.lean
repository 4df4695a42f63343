import Derived.Test.YtekokogmnhlchaaGreatDoorE5
import Derived.Test.YtekokogmnhlchaaGreatDoorA5
import Derived.Test.YtekokogmnhlchaaGreatDoorA9
import Derived.Test.YtekokogmnhlchaaGreatDoorA1
import Derived.BigRegion
import Derived.BigQuiet
set_option linter.unusedSimpArgs false
set_option linter.unusedVariables false
set_option linter.unusedSectionVars false
namespace Go.Proofs.YtekokogmnhlchaaGreatDoor
open Go.RowKit
theorem low_big {r : Nat} (h : 122 < r) : low r = false := by simp [low]; omega
theorem low_bytes : ∀ (n : Nat) (l : List UInt8), l.length ≤ n → (runesL l).all low = l.all (fun b => low b.toNat)
  | 0, l, h => by
    have : l = [] := List.eq_nil_of_length_eq_zero (by omega)
    subst this
    rfl
  | n + 1, l, h => by
    by_cases hl : l = []
    · subst hl; rfl
    rw [runesL_step l hl]
    cases l with
    | nil => exact absurd rfl hl
    | cons b t =>
      simp only [List.all_cons]
      have hN := Lib.decodeL_N (b :: t)
      have h0 : ((b :: t).getD 0 0).toNat = b.toNat := rfl
      rw [h0] at hN
      by_cases hb : b.toNat < 128
      · have hd : Lib.decodeL (b :: t) = (b.toNat, 1) := by rw [hN]; unfold Lib.decodeN; rw [if_pos hb]
        rw [hd]
        show (low b.toNat && (runesL t).all low) = _
        rw [low_bytes n t (by simp at h; omega)]
      have h1 : low (Lib.decodeL (b :: t)).1 = false := by
        rcases Lib.decodeN_shape (b :: t).length b.toNat ((b :: t).getD 1 0).toNat ((b :: t).getD 2 0).toNat ((b :: t).getD 3 0).toNat with ⟨c, e⟩ | ⟨c1, c2, c3, cv, e⟩ | ⟨c1, c2, c3, c4, cv, cs, e⟩ | ⟨c1, c2, c3, c4, c5, cv, cw, e⟩ | e
        · exact absurd c hb
        · rw [hN, e]; exact low_big (Nat.lt_of_lt_of_le (by decide : 122 < 128) cv)
        · rw [hN, e]; exact low_big (Nat.lt_of_lt_of_le (by decide : 122 < 2048) cv)
        · rw [hN, e]; exact low_big (Nat.lt_of_lt_of_le (by decide : 122 < 65536) cv)
        rw [hN, e]; decide
      have h2 : low b.toNat = false := by simp [low]; omega
      rw [h1, h2]
      rfl
theorem nameB_bytes (s : ByteArray) : nameB s = (s.data.toList.all (fun b => low b.toNat) && (decide (1 ≤ s.size) && decide (s.size ≤ 8))) := by
  by_cases h : s.data.toList.all (fun b => low b.toNat) = true
  · have h2 := low_bytes _ s.data.toList (Nat.le_refl _)
    rw [h] at h2
    have h3 : (runesL s.data.toList).length = s.size := by
      rw [size_len]
      exact Nat.le_antisymm (runesL_le _) (by have := low_len _ _ (Nat.le_refl _) h2; omega)
    rw [h, nameB, nameRest, h2, h3]
    simp
  have h2 := low_bytes _ s.data.toList (Nat.le_refl _)
  have hf : s.data.toList.all (fun b => low b.toNat) = false := by simpa using h
  rw [hf] at h2 ⊢
  rw [nameB, nameRest, h2]
  rfl
set_option maxHeartbeats 3200000 in
set_option maxRecDepth 1000000 in
theorem name14_any (s : ByteArray) (w : World) (hs : s.size ≤ 9223372036854775806) : Calls Tryz.prog 139 #[.string s] w fun e w' => e = .returned (.bool (nameB s)) ∧ w' = w := by
  obtain ⟨G, hG⟩ : ∃ G, nameB s = G := ⟨_, rfl⟩
  rw [hG]
  rw [nameB_bytes] at hG
  by_cases h1 : s.size < 1
  · have hg : G = false := by rw [← hG, show decide (1 ≤ s.size) = false by simpa using h1]; simp
    subst hg
    have hi : (s.size : Int) < 1 := by omega
    clear hG h1
    go_enter Tryz.func139, Tryz.ntmps139
    go_wp2_with fail
    go_ret
    exact ⟨rfl, rfl⟩
  have hi : ¬ (s.size : Int) < 1 := by omega
  by_cases h8 : 8 < s.size
  · have hg : G = false := by rw [← hG, show decide (s.size ≤ 8) = false by simp; omega]; simp
    subst hg
    have hi8 : (8 : Int) < (s.size : Int) := by omega
    clear hG h1 h8
    go_enter Tryz.func139, Tryz.ntmps139
    go_wp2_with fail
    go_ret
    exact ⟨rfl, rfl⟩
  have hi8 : ¬ (8 : Int) < (s.size : Int) := by omega
  rw [show decide (1 ≤ s.size) = true by simp; omega, show decide (s.size ≤ 8) = true by simp; omega, Bool.and_true, Bool.and_true] at hG
  have HG := hide hG
  have h88 : s.size ≤ 8 := by omega
  clear hG h1 h8
  go_enter Tryz.func139, Tryz.ntmps139
  go_wp2_with fail
  go_loopw [3] (fun iv wr => ∃ k : Nat, k ≤ s.size ∧ iv = .int .i64 k ∧ Hid (∀ j (h : j < s.size), j < k → low (s[j]'h).toNat = true) ∧ wr = w) (fun iv _ => s.size - (intOf iv).toNat)
  case atStart => exact ⟨0, Nat.zero_le _, rfl, hide (fun j h hj => by omega), rfl⟩
  case round =>
    obtain ⟨k, hk, rfl, HN, rfl⟩ := hrel
    by_cases hlt : k < s.size
    rotate_left
    · have hke : k = s.size := by omega
      have hg : G = true := by
        rw [← HG.out, List.all_eq_true]
        intro b hb
        obtain ⟨j, hj, rfl⟩ := List.getElem_of_mem hb
        have hj' : j < s.size := by rw [size_len]; exact hj
        exact HN.out j hj' (by omega)
      subst hg
      have hki : ¬ (k : Int) < (s.size : Int) := by omega
      clear hke
      go_wp2_with fail
      go_ret
      exact ⟨rfl, rfl⟩
    have hki : (k : Int) < (s.size : Int) := by omega
    have hq0 : ∀ h : k < s.size, (s[k]'h).toNat = (s[k]'hlt).toNat := fun _ => rfl
    obtain ⟨q, hq⟩ : ∃ q, (s[k]'hlt).toNat = q := ⟨_, rfl⟩
    have hqq : ∀ h : k < s.size, (s[k]'h).toNat = q := fun h => hq
    have hmem : s[k]'hlt ∈ s.data.toList := by
      have : s[k]'hlt = s.data.toList[k]'(by rw [← size_len]; exact hlt) := rfl
      rw [this]; exact List.getElem_mem _
    by_cases hl : low q = true
    · have HN2 : Hid (∀ j (h : j < s.size), j < k + 1 → low (s[j]'h).toNat = true) := hide fun j h hj => by
        rcases Nat.lt_or_eq_of_le (Nat.le_of_lt_succ hj) with h4 | h4
        · exact HN.out j h h4
        subst h4; rw [hqq h]; exact hl
      simp only [low, Bool.and_eq_true, decide_eq_true_eq] at hl
      have t1 : ¬ (q : Int) < 97 := by omega
      have t2 : ¬ (122 : Int) < (q : Int) := by omega
      clear hq hl hmem hq0
      go_wp2_with fail
      exact ⟨⟨k + 1, hlt, by go_num, HN2, trivial⟩, by simp [intOf]; omega⟩
    have hg : G = false := by
      rw [← HG.out, List.all_eq_false]
      exact ⟨_, hmem, by rw [hq]; exact hl⟩
    subst hg
    have hl2 : q < 97 ∨ 122 < q := by
      simp only [low, Bool.and_eq_true, decide_eq_true_eq] at hl; omega
    clear hq hl hmem hq0
    by_cases t1 : q < 97
    · have t1' : (q : Int) < 97 := by omega
      go_wp2_with fail
      go_ret
      exact ⟨rfl, rfl⟩
    have t1' : ¬ (q : Int) < 97 := by omega
    have t2' : (122 : Int) < (q : Int) := by omega
    go_wp2_with fail
    go_ret
    exact ⟨rfl, rfl⟩
set_option maxHeartbeats 3200000 in
set_option maxRecDepth 1000000 in
theorem eqcols (A B : Option Addr) (n c d : Nat) (l : List Col) (w : World) (hl : l.length = n) (hx : Rd w 3 A n (l.flatMap Col.cells)) (hy : Rd w 3 B n (l.flatMap Col.cells)) (hn : n ≤ 1000000000) :
    Calls Tryz.prog 82 #[.slice A n c, .slice B n d] w fun e w' => e = .returned (.bool true) ∧ Below w.heap.size w w' := by
  have HX := hide hx
  have HY := hide hy
  have Hl := hide hl
  clear hx hy hl
  go_enter Tryz.func82, Tryz.ntmps82
  go_wp2_with fail
  go_loopw [13] (fun iv wr => ∃ k : Nat, k ≤ n ∧ iv = .int .i64 k ∧ Hid (Below w.heap.size w wr)) (fun iv _ => n - (intOf iv).toNat)
  case atStart => exact ⟨0, Nat.zero_le _, rfl, hide (Below.refl _ _)⟩
  case round =>
    obtain ⟨k, hk, rfl, HB⟩ := hrel
    by_cases hlt : k < n
    rotate_left
    · have hki : ¬ (k : Int) < (n : Int) := by omega
      go_wp2_with fail
      go_ret
      exact ⟨rfl, HB.out⟩
    have hkl : k < l.length := by rw [Hl.out]; exact hlt
    obtain ⟨b, o, rfl, hc⟩ := Rd.struct Col.cells_len l Hl.out (HX.out.below HB.out) k hkl
    obtain ⟨b', o', rfl, hc'⟩ := Rd.struct Col.cells_len l Hl.out (HY.out.below HB.out) k hkl
    obtain ⟨⟨nm, kk, kn⟩, hv⟩ : ∃ v, l[k] = v := ⟨_, rfl⟩
    rw [hv] at hc hc'
    have x0 : C wr b (o + k * 3) (.string nm) := hc 0 (by omega)
    have x1 : C wr b (o + k * 3 + 1) (.int .i64 kk) := hc 1 (by omega)
    have x2 : C wr b (o + k * 3 + 2) (.int .i64 kn) := hc 2 (by omega)
    have y0 : C wr b' (o' + k * 3) (.string nm) := hc' 0 (by omega)
    have y1 : C wr b' (o' + k * 3 + 1) (.int .i64 kk) := hc' 1 (by omega)
    have y2 : C wr b' (o' + k * 3 + 2) (.int .i64 kn) := hc' 2 (by omega)
    have hki : (k : Int) < (n : Int) := by omega
    clear hc hc' hv
    go_wp2_with fail
    go_quiet (fail)
    all_goals
      go_wp2_with fail
      exact ⟨⟨k + 1, hlt, by go_num, hide (below_drewN HB.out _)⟩, by simp [intOf]; omega⟩
set_option maxHeartbeats 3200000 in
set_option maxRecDepth 1000000 in
theorem eqixs (A B : Option Addr) (n c d : Nat) (l : List Ix) (w : World) (hl : l.length = n) (hx : Rd w 2 A n (l.flatMap Ix.cells)) (hy : Rd w 2 B n (l.flatMap Ix.cells)) (hn : n ≤ 1000000000) :
    Calls Tryz.prog 83 #[.slice A n c, .slice B n d] w fun e w' => e = .returned (.bool true) ∧ Below w.heap.size w w' := by
  have HX := hide hx
  have HY := hide hy
  have Hl := hide hl
  clear hx hy hl
  go_enter Tryz.func83, Tryz.ntmps83
  go_wp2_with fail
  go_loopw [13] (fun iv wr => ∃ k : Nat, k ≤ n ∧ iv = .int .i64 k ∧ Hid (Below w.heap.size w wr)) (fun iv _ => n - (intOf iv).toNat)
  case atStart => exact ⟨0, Nat.zero_le _, rfl, hide (Below.refl _ _)⟩
  case round =>
    obtain ⟨k, hk, rfl, HB⟩ := hrel
    by_cases hlt : k < n
    rotate_left
    · have hki : ¬ (k : Int) < (n : Int) := by omega
      go_wp2_with fail
      go_ret
      exact ⟨rfl, HB.out⟩
    have hkl : k < l.length := by rw [Hl.out]; exact hlt
    obtain ⟨b, o, rfl, hc⟩ := Rd.struct Ix.cells_len l Hl.out (HX.out.below HB.out) k hkl
    obtain ⟨b', o', rfl, hc'⟩ := Rd.struct Ix.cells_len l Hl.out (HY.out.below HB.out) k hkl
    obtain ⟨⟨kk, ku⟩, hv⟩ : ∃ v, l[k] = v := ⟨_, rfl⟩
    rw [hv] at hc hc'
    have x0 : C wr b (o + k * 2) (.int .i64 kk) := hc 0 (by omega)
    have x1 : C wr b (o + k * 2 + 1) (.bool ku) := hc 1 (by omega)
    have y0 : C wr b' (o' + k * 2) (.int .i64 kk) := hc' 0 (by omega)
    have y1 : C wr b' (o' + k * 2 + 1) (.bool ku) := hc' 1 (by omega)
    have hki : (k : Int) < (n : Int) := by omega
    clear hc hc' hv
    go_wp2_with fail
    go_quiet (fail)
    all_goals
      go_wp2_with fail
      exact ⟨⟨k + 1, hlt, by go_num, hide (below_drewN HB.out _)⟩, by simp [intOf]; omega⟩
set_option maxHeartbeats 3200000 in
set_option maxRecDepth 1000000 in
theorem same36_eq (s : Sch) (a b : Value) (w : World) (ha : SchV w s a) (hb : SchV w s b) (h1 : s.cols.length ≤ 1000000000) (h2 : s.ixs.length ≤ 1000000000) :
    Calls Tryz.prog 36 #[a, b] w fun e w' => e = .returned (.bool true) ∧ Below w.heap.size w w' := by
  obtain ⟨CA, cc, XA, xc, rfl, _, _, hC, hX⟩ := ha
  obtain ⟨CB, dc, XB, yc, rfl, _, _, hD, hY⟩ := hb
  have ha0 := (Below.refl w.heap.size w).alloc (Nat.le_refl _) (.cells #[.string s.name, .slice CA s.cols.length cc, .slice XA s.ixs.length xc] 25)
  have ha1 := ha0.alloc ha0.size (.cells #[.string s.name, .slice CB s.cols.length dc, .slice XB s.ixs.length yc] 25)
  have n0 := (Blk.new w #[.string s.name, .slice CA s.cols.length cc, .slice XA s.ixs.length xc] 25).alloc (.cells #[.string s.name, .slice CB s.cols.length dc, .slice XB s.ixs.length yc] 25)
  have n1 := Blk.new (w.alloc (.cells #[.string s.name, .slice CA s.cols.length cc, .slice XA s.ixs.length xc] 25)) #[.string s.name, .slice CB s.cols.length dc, .slice XB s.ixs.length yc] 25
  rw [show (w.alloc (.cells #[.string s.name, .slice CA s.cols.length cc, .slice XA s.ixs.length xc] 25)).heap.size = w.heap.size + 1 by simp] at n1
  have hcols := eqcols CA CB s.cols.length cc dc s.cols _ rfl (hC.below ha1) (hD.below ha1) h1
  have hixs : ∀ W, Below _ _ W → Calls Tryz.prog 83 _ W _ := fun W (hW : Below _ ((w.alloc (.cells #[.string s.name, .slice CA s.cols.length cc, .slice XA s.ixs.length xc] 25)).alloc (.cells #[.string s.name, .slice CB s.cols.length dc, .slice XB s.ixs.length yc] 25)) W) => eqixs XA XB s.ixs.length xc yc s.ixs W rfl ((hX.below ha1).below hW) ((hY.below ha1).below hW) h2
  have Hcols := hide hcols
  have Hixs := hide hixs
  have Ha1 := hide ha1
  have N0 := hide n0
  have N1 := hide n1
  clear hC hX hD hY ha0 ha1 n0 n1 hcols hixs
  go_enter Tryz.func36, Tryz.ntmps36
  go_wp2_with fail
  refine Hcols.out.mono ?_
  rintro e w2 ⟨rfl, hb2⟩
  have x2 := (N0.out.below hb2).c 2 (v := .slice XA s.ixs.length xc) rfl
  have y2 := (N1.out.below hb2).c 2 (v := .slice XB s.ixs.length yc) rfl
  have Hi := hide (Hixs.out _ hb2)
  have HB2 := hide (below_chain Ha1.out hb2)
  clear hb2 Hcols Hixs
  go_wp2_with fail
  refine Hi.out.mono ?_
  rintro e w3 ⟨rfl, hb3⟩
  go_wp2_with fail
  go_ret
  exact ⟨rfl, below_chain HB2.out hb3⟩
set_option maxHeartbeats 6400000 in
set_option maxRecDepth 1000000 in
theorem same35_eq (s : Sch) (a b : Value) (w : World) (ha : SchV w s a) (hb : SchV w s b) (h1 : s.cols.length ≤ 1000000000) (h2 : s.ixs.length ≤ 1000000000) :
    Calls Tryz.prog 35 #[a, b] w fun e w' => e = .returned (.bool true) ∧ Below w.heap.size w w' := by
  obtain ⟨CA, cc, XA, xc, rfl, _, _, hC, hX⟩ := ha
  obtain ⟨CB, dc, XB, yc, rfl, _, _, hD, hY⟩ := hb
  have ha0 := (Below.refl w.heap.size w).alloc (Nat.le_refl _) (.cells #[.string s.name, .slice CA s.cols.length cc, .slice XA s.ixs.length xc] 25)
  have ha1 := ha0.alloc ha0.size (.cells #[.string s.name, .slice CB s.cols.length dc, .slice XB s.ixs.length yc] 25)
  have n0 := (Blk.new w #[.string s.name, .slice CA s.cols.length cc, .slice XA s.ixs.length xc] 25).alloc (.cells #[.string s.name, .slice CB s.cols.length dc, .slice XB s.ixs.length yc] 25)
  have n1 := Blk.new (w.alloc (.cells #[.string s.name, .slice CA s.cols.length cc, .slice XA s.ixs.length xc] 25)) #[.string s.name, .slice CB s.cols.length dc, .slice XB s.ixs.length yc] 25
  rw [show (w.alloc (.cells #[.string s.name, .slice CA s.cols.length cc, .slice XA s.ixs.length xc] 25)).heap.size = w.heap.size + 1 by simp] at n1
  obtain ⟨W1, hW1⟩ : ∃ W1, (w.alloc (.cells #[.string s.name, .slice CA s.cols.length cc, .slice XA s.ixs.length xc] 25)).alloc (.cells #[.string s.name, .slice CB s.cols.length dc, .slice XB s.ixs.length yc] 25) = W1 := ⟨_, rfl⟩
  rw [hW1] at ha1 n0 n1
  obtain ⟨cl, hcl⟩ : ∃ cl, s.cols.length = cl := ⟨_, rfl⟩
  obtain ⟨xl, hxl⟩ : ∃ xl, s.ixs.length = xl := ⟨_, rfl⟩
  rw [hcl] at hC hD h1 n0 n1
  rw [hxl] at hX hY h2 n0 n1
  have HC := hide (hC.below ha1)
  have HD := hide (hD.below ha1)
  have HX := hide (hX.below ha1)
  have HY := hide (hY.below ha1)
  have Ha1 := hide ha1
  have N0 := hide n0
  have N1 := hide n1
  have Hcl := hide hcl
  have Hxl := hide hxl
  clear hC hD hX hY ha0 ha1 n0 n1
  rw [hcl, hxl] at hW1 ⊢
  clear hcl hxl
  have p0 := N0.out.c 0 (v := .string s.name) rfl
  have p1 := N0.out.c 1 (v := .slice CA cl cc) rfl
  have p2 := N0.out.c 2 (v := .slice XA xl xc) rfl
  have r0 := N1.out.c 0 (v := .string s.name) rfl
  have r1 := N1.out.c 1 (v := .slice CB cl dc) rfl
  have r2 := N1.out.c 2 (v := .slice XB xl yc) rfl
  go_enter Tryz.func35, Tryz.ntmps35
  go_wp2_with fail
  clear hW1 p0 p1 p2 r0 r1 r2
  go_loopw [5] (fun iv wr => ∃ k : Nat, k ≤ cl ∧ iv = .int .i64 k ∧ Hid (Below W1.heap.size W1 wr)) (fun iv _ => cl - (intOf iv).toNat)
  case atStart => exact ⟨0, Nat.zero_le _, rfl, hide (Below.refl _ _)⟩
  case round =>
    obtain ⟨k, hk, rfl, HB⟩ := hrel
    have f0 := (N0.out.below HB.out).c 1 (v := .slice CA cl cc) rfl
    have g0 := (N1.out.below HB.out).c 1 (v := .slice CB cl dc) rfl
    by_cases hlt : k < cl
    · have hkl : k < s.cols.length := by rw [Hcl.out]; exact hlt
      obtain ⟨b, o, rfl, hc⟩ := Rd.struct Col.cells_len s.cols Hcl.out (HC.out.below HB.out) k hkl
      obtain ⟨b', o', rfl, hc'⟩ := Rd.struct Col.cells_len s.cols Hcl.out (HD.out.below HB.out) k hkl
      obtain ⟨⟨nm, kk, kn⟩, hv⟩ : ∃ v, s.cols[k] = v := ⟨_, rfl⟩
      rw [hv] at hc hc'
      have x0 : C wr b (o + k * 3) (.string nm) := hc 0 (by omega)
      have x1 : C wr b (o + k * 3 + 1) (.int .i64 kk) := hc 1 (by omega)
      have x2 : C wr b (o + k * 3 + 2) (.int .i64 kn) := hc 2 (by omega)
      have y0 : C wr b' (o' + k * 3) (.string nm) := hc' 0 (by omega)
      have y1 : C wr b' (o' + k * 3 + 1) (.int .i64 kk) := hc' 1 (by omega)
      have y2 : C wr b' (o' + k * 3 + 2) (.int .i64 kn) := hc' 2 (by omega)
      have hki : (k : Int) < (cl : Int) := by omega
      clear hc hc' hv
      go_wp2_with fail
      go_quiet (fail)
      all_goals
        go_wp2_with fail
        exact ⟨⟨k + 1, hlt, by go_num, hide (below_drewN HB.out _)⟩, by simp [intOf]; omega⟩
    have hki : ¬ (k : Int) < (cl : Int) := by omega
    go_wp2_with fail
    clear f0 g0
    go_loopw [6] (fun iv wr => ∃ k : Nat, k ≤ xl ∧ iv = .int .i64 k ∧ Hid (Below W1.heap.size W1 wr)) (fun iv _ => xl - (intOf iv).toNat)
    case atStart => exact ⟨0, Nat.zero_le _, rfl, HB⟩
    case round =>
      clear HB
      obtain ⟨j, hj, rfl, HB⟩ := hrel
      have f0 := (N0.out.below HB.out).c 2 (v := .slice XA xl xc) rfl
      have g0 := (N1.out.below HB.out).c 2 (v := .slice XB xl yc) rfl
      by_cases hlt : j < xl
      rotate_left
      · have hji : ¬ (j : Int) < (xl : Int) := by omega
        go_wp2_with fail
        go_ret
        exact ⟨rfl, below_chain Ha1.out HB.out⟩
      have hkl : j < s.ixs.length := by rw [Hxl.out]; exact hlt
      obtain ⟨b, o, rfl, hc⟩ := Rd.struct Ix.cells_len s.ixs Hxl.out (HX.out.below HB.out) j hkl
      obtain ⟨b', o', rfl, hc'⟩ := Rd.struct Ix.cells_len s.ixs Hxl.out (HY.out.below HB.out) j hkl
      obtain ⟨⟨kk, ku⟩, hv⟩ : ∃ v, s.ixs[j] = v := ⟨_, rfl⟩
      rw [hv] at hc hc'
      have x0 : C wr b (o + j * 2) (.int .i64 kk) := hc 0 (by omega)
      have x1 : C wr b (o + j * 2 + 1) (.bool ku) := hc 1 (by omega)
      have y0 : C wr b' (o' + j * 2) (.int .i64 kk) := hc' 0 (by omega)
      have y1 : C wr b' (o' + j * 2 + 1) (.bool ku) := hc' 1 (by omega)
      have hji : (j : Int) < (xl : Int) := by omega
      clear hc hc' hv
      go_wp2_with fail
      go_quiet (fail)
      all_goals
        go_wp2_with fail
        exact ⟨⟨j + 1, hlt, by go_num, hide (below_drewN HB.out _)⟩, by simp [intOf]; omega⟩
def hitK (rows : List (List V)) (k : Nat) (v : V) (skip : Int) : Bool := (List.range rows.length).any fun j => decide ((j : Int) ≠ skip) && decide (col (rows.getD j []) k = v)
def hitX (rows : List (List V)) (row : List V) (skip : Int) (x : Ix) : Bool := x.uniq && (decide ((col row x.col.toNat).k ≠ 0) && hitK rows x.col.toNat (col row x.col.toNat) skip)
def twB (T : Tb) (row : List V) (skip : Int) : Bool := T.s.ixs.any (hitX T.rows row skip)
theorem hitK_true {rows : List (List V)} {k j : Nat} {v : V} {skip : Int} (hj : j < rows.length) (h1 : (j : Int) ≠ skip) (h2 : col rows[j] k = v) : hitK rows k v skip = true := by
  rw [hitK, List.any_eq_true]
  refine ⟨j, List.mem_range.2 hj, ?_⟩
  rw [List.getD_eq_getElem?_getD, List.getElem?_eq_getElem hj]
  simp [h1, h2]
theorem hitK_false {rows : List (List V)} {k : Nat} {v : V} {skip : Int} (h : ∀ j (hj : j < rows.length), (j : Int) = skip ∨ col rows[j] k ≠ v) : hitK rows k v skip = false := by
  rw [hitK, List.any_eq_false]
  intro j hj
  rw [List.mem_range] at hj
  rw [List.getD_eq_getElem?_getD, List.getElem?_eq_getElem hj]
  rcases h j hj with h1 | h1
  · simp [h1]
  simp [h1]
theorem Rd.col {w : World} {A : Option Addr} {r : List V} (h : Rd w 3 A r.length (rowCells r)) (k : Nat) (hk : k < r.length) : ∃ b o, A = some ⟨b, o, none⟩ ∧ C w b (o + k * 3) (.int .i64 (col r k).k) ∧ C w b (o + k * 3 + 1) (.int .i64 (col r k).n) ∧ C w b (o + k * 3 + 2) (.string (col r k).s) := by
  obtain ⟨b, o, hA, h0, h1, h2⟩ := Row.cells h k hk
  have hc : r[k] = YtekokogmnhlchaaGreatDoor.col r k := by rw [YtekokogmnhlchaaGreatDoor.col, List.getD_eq_getElem?_getD, List.getElem?_eq_getElem hk]; rfl
  rw [hc] at h0 h1 h2
  exact ⟨b, o, hA, h0, h1, h2⟩
set_option maxHeartbeats 6400000 in
set_option maxRecDepth 1000000 in
theorem twice_any (T : Tb) (CA : Option Addr) (cc : Nat) (XA : Option Addr) (xc : Nat) (RA : Option Addr) (rc : Nat) (A : Option Addr) (n c : Nat) (row : List V) (skip : Int) (w : World)
    (hX : Rd w 2 XA T.s.ixs.length (T.s.ixs.flatMap Ix.cells)) (hR : RowsR w RA T.rows.length T.rows) (hr : Rd w 3 A n (rowCells row)) (hn : row.length = n)
    (hx : ∀ x ∈ T.s.ixs, 0 ≤ x.col ∧ x.col < (n : Int) ∧ ∀ r ∈ T.rows, x.col < (r.length : Int)) (hxl : T.s.ixs.length ≤ 1000) (hrl : T.rows.length ≤ 1000) :
    Calls Tryz.prog 134 #[.agg #[.string T.s.name, .slice CA T.s.cols.length cc, .slice XA T.s.ixs.length xc, .slice RA T.rows.length rc], .slice A n c, .int .i64 skip] w fun e w' => e = .returned (.bool (twB T row skip)) ∧ Below w.heap.size w w' := by
  obtain ⟨G, hG⟩ : ∃ G, twB T row skip = G := ⟨_, rfl⟩
  rw [hG]
  have HG := hide hG
  have ha0 := (Below.refl w.heap.size w).alloc (Nat.le_refl _) (.cells #[.string T.s.name, .slice CA T.s.cols.length cc, .slice XA T.s.ixs.length xc, .slice RA T.rows.length rc] 79)
  have n0 := Blk.new w #[.string T.s.name, .slice CA T.s.cols.length cc, .slice XA T.s.ixs.length xc, .slice RA T.rows.length rc] 79
  obtain ⟨W1, hW1⟩ : ∃ W1, w.alloc (.cells #[.string T.s.name, .slice CA T.s.cols.length cc, .slice XA T.s.ixs.length xc, .slice RA T.rows.length rc] 79) = W1 := ⟨_, rfl⟩
  rw [hW1] at ha0 n0
  obtain ⟨xn, hxn⟩ : ∃ xn, T.s.ixs.length = xn := ⟨_, rfl⟩
  obtain ⟨rn, hrn⟩ : ∃ rn, T.rows.length = rn := ⟨_, rfl⟩
  rw [hxn] at hX n0 hxl hW1 ⊢
  rw [hrn] at hR n0 hrl hW1 ⊢
  have HX := hide (hX.below ha0)
  have HR := hide (hR.below ha0)
  have Hr := hide (hr.below ha0)
  have Hn := hide hn
  have Ha0 := hide ha0
  have N0 := hide n0
  have Hxn := hide hxn
  have Hrn := hide hrn
  have Hx := hide hx
  clear hG hX hR hr ha0 n0 hxn hrn hx hn
  go_enter Tryz.func134, Tryz.ntmps134
  go_wp2_with fail
  clear hW1
  go_loopw [7] (fun iv wr => ∃ i : Nat, i ≤ xn ∧ iv = .int .i64 i ∧ Hid (∀ j (h : j < T.s.ixs.length), j < i → hitX T.rows row skip T.s.ixs[j] = false) ∧ Hid (Below W1.heap.size W1 wr)) (fun iv _ => xn - (intOf iv).toNat)
  case atStart => exact ⟨0, Nat.zero_le _, rfl, hide (fun j h hj => by omega), hide (Below.refl _ _)⟩
  case round =>
    obtain ⟨i, hi, rfl, HN, HB⟩ := hrel
    have f2 := (N0.out.below HB.out).c 2 (v := .slice XA xn xc) rfl
    by_cases hlt : i < xn
    rotate_left
    · have hii : ¬ (i : Int) < (xn : Int) := by omega
      have hg : G = false := by
        rw [← HG.out, twB, List.any_eq_false]
        intro x hx
        obtain ⟨j, hj, rfl⟩ := List.getElem_of_mem hx
        have := HN.out j hj (by rw [Hxn.out] at hj; omega)
        rw [this]; decide
      subst hg
      go_wp2_with fail
      go_ret
      exact ⟨rfl, below_chain Ha0.out HB.out⟩
    have hix : i < T.s.ixs.length := by rw [Hxn.out]; exact hlt
    obtain ⟨x, hx⟩ : ∃ x, T.s.ixs[i] = x := ⟨_, rfl⟩
    obtain ⟨hx0, hx1, hx2⟩ := Hx.out x (hx ▸ List.getElem_mem hix)
    obtain ⟨b, o, rfl, hc⟩ := Rd.struct Ix.cells_len T.s.ixs Hxn.out (HX.out.below HB.out) i hix
    rw [hx] at hc
    have x0 : C wr b (o + i * 2) (.int .i64 x.col) := hc 0 (by omega)
    have x1 : C wr b (o + i * 2 + 1) (.bool x.uniq) := hc 1 (by omega)
    have hnext : hitX T.rows row skip x = false → ∀ j (h : j < T.s.ixs.length), j < i + 1 → hitX T.rows row skip T.s.ixs[j] = false := fun h0 j h hj => by
      rcases Nat.lt_or_eq_of_le (Nat.le_of_lt_succ hj) with h4 | h4
      · exact HN.out j h h4
      subst h4; rw [hx]; exact h0
    have htrue : hitX T.rows row skip x = true → G = true := fun h0 => by
      rw [← HG.out, twB, List.any_eq_true]
      exact ⟨x, hx ▸ List.getElem_mem hix, h0⟩
    obtain ⟨xcol, xu⟩ := x
    dsimp only at x0 x1 hx0 hx1 hx2
    obtain ⟨cn, rfl⟩ := Int.eq_ofNat_of_zero_le hx0
    have hcn : cn < row.length := by rw [Hn.out]; omega
    obtain ⟨rb, ro, hA, r0, r1, r2⟩ := Rd.col (r := row) (by rw [Hn.out]; exact Hr.out.below HB.out) cn hcn
    subst hA
    obtain ⟨v, hv⟩ : ∃ v, col row cn = v := ⟨_, rfl⟩
    rw [hv] at r0 r1 r2
    have hxe : hitX T.rows row skip ⟨(cn : Int), xu⟩ = (xu && (decide (v.k ≠ 0) && hitK T.rows cn v skip)) := by simp [hitX, hv]
    rw [hxe] at hnext htrue
    have Hnext := hide hnext
    have Htrue := hide htrue
    have hii : (i : Int) < (xn : Int) := by omega
    have hci : (cn : Int) < (n : Int) := hx1
    have Hv := hide hv
    have Hx2 := hide hx2
    clear hnext htrue hc hx hxe hv hx2 hx0 hx1
    cases xu with
    | false =>
      have HN2 := hide (Hnext.out rfl)
      have hal := (Below.refl wr.heap.size wr).alloc (Nat.le_refl _) (.cells #[.int .i64 (cn : Nat), .bool false] 68)
      have HB2 := hide (below_then HB.out HB.out.size hal)
      clear hal Hnext Htrue
      go_wp2_with fail
      exact ⟨⟨i + 1, hlt, by go_num, HN2, HB2⟩, by simp [intOf]; omega⟩
    | true =>
      have hal := (Below.refl wr.heap.size wr).alloc (Nat.le_refl _) (.cells #[.int .i64 (cn : Nat), .bool true] 68)
      have nx := Blk.new wr #[.int .i64 (cn : Nat), .bool true] 68
      have HB2 := hide (below_then HB.out HB.out.size hal)
      obtain ⟨W2, hW2⟩ : ∃ W2, wr.alloc (.cells #[.int .i64 (cn : Nat), .bool true] 68) = W2 := ⟨_, rfl⟩
      obtain ⟨xb, hxb⟩ : ∃ xb, wr.heap.size = xb := ⟨_, rfl⟩
      rw [hW2] at nx HB2 hal
      rw [hxb] at nx
      have q0 := nx.c 0 (v := .int .i64 (cn : Nat)) rfl
      have q1 := nx.c 1 (v := .bool true) rfl
      have r0a : C W2 rb (ro + cn * 3) (.int .i64 v.k) := (World.cell?_of_block (w := wr) (w' := W2) (a := ⟨rb, ro + cn * 3, none⟩) (hal.block rb (hxb ▸ r0.lt))).trans r0
      by_cases hk0 : v.k = 0
      · have HN2 := hide (Hnext.out (by simp [hk0]))
        rw [hk0] at r0a
        clear hal Hnext Htrue hk0 nx r0 r1 r2
        go_wp2_with fail
        exact ⟨⟨i + 1, hlt, by go_num, HN2, HB2⟩, by simp [intOf]; omega⟩
      have hkb : (v.k == 0) = false := by simpa using hk0
      have hdk : decide (v.k ≠ 0) = true := by simpa using hk0
      rw [hdk, Bool.true_and, Bool.true_and] at Hnext Htrue
      have Nx := hide nx
      clear hal nx hdk hk0 r0 r1 r2
      go_wp2_with fail
      clear hW2 hxb
      clear q0 q1 r0a f2 x0 x1
      go_loopw [9] (fun kv wx => ∃ k : Nat, k ≤ rn ∧ kv = .int .i64 k ∧ Hid (∀ j (h : j < T.rows.length), j < k → (j : Int) = skip ∨ col T.rows[j] cn ≠ v) ∧ Hid (Below W2.heap.size W2 wx)) (fun kv _ => rn - (intOf kv).toNat)
      case atStart => exact ⟨0, Nat.zero_le _, rfl, hide (fun j h hj => by omega), hide (Below.refl _ _)⟩
      case round =>
        obtain ⟨k, hk, rfl, HM, HC⟩ := hrel
        have HD := hide (below_then HB2.out HB2.out.size HC.out)
        have g3 := (N0.out.below HD.out).c 3 (v := .slice RA rn rc) rfl
        have q0 := (Nx.out.below HC.out).c 0 (v := .int .i64 (cn : Nat)) rfl
        by_cases hkl : k < rn
        rotate_left
        · have hki : ¬ (k : Int) < (rn : Int) := by omega
          have HN2 := hide (Hnext.out (hitK_false fun j hj => HM.out j hj (by rw [Hrn.out] at hj; omega)))
          clear q0
          go_wp2_with fail
          exact ⟨⟨i + 1, hlt, by go_num, HN2, HD⟩, by simp [intOf]; omega⟩
        have hkr : k < T.rows.length := by rw [Hrn.out]; exact hkl
        obtain ⟨lb, lo, Aj, cj, rfl, y0, hrd, _⟩ := (HR.out.below HD.out).at_ k hkl hkr
        obtain ⟨p, hp⟩ : ∃ p, T.rows[k] = p := ⟨_, rfl⟩
        have hpc : cn < p.length := by
          have := Hx2.out p (hp ▸ List.getElem_mem hkr)
          omega
        rw [hp] at y0 hrd
        obtain ⟨pb, po, rfl, z0, z1, z2⟩ := Rd.col hrd cn hpc
        have hnx : ((k : Int) = skip ∨ col p cn ≠ v) → ∀ j (h : j < T.rows.length), j < k + 1 → (j : Int) = skip ∨ col T.rows[j] cn ≠ v := fun h0 j h hj => by
          rcases Nat.lt_or_eq_of_le (Nat.le_of_lt_succ hj) with h4 | h4
          · exact HM.out j h h4
          subst h4; rw [hp]; exact h0
        have htr : (k : Int) ≠ skip → col p cn = v → G = true := fun h1 h2 => Htrue.out (hitK_true hkr h1 (by rw [hp]; exact h2))
        obtain ⟨rb', ro', hA', r0, r1, r2⟩ := Rd.col (r := row) (by rw [Hn.out]; exact Hr.out.below HD.out) cn hcn
        injection hA' with hA'
        injection hA' with e1 e2 _
        subst e1 e2
        rw [Hv.out] at r0 r1 r2
        obtain ⟨pv, hpv⟩ : ∃ pv, col p cn = pv := ⟨_, rfl⟩
        rw [hpv] at z0 z1 z2 hnx htr
        obtain ⟨pl, hpl⟩ : ∃ pl, p.length = pl := ⟨_, rfl⟩
        rw [hpl] at y0 hpc
        have hki : (k : Int) < (rn : Int) := by omega
        have hpi : (cn : Int) < (pl : Int) := by omega
        have Hnx := hide hnx
        have Htr := hide htr
        clear hnx htr hrd hp hpv hpl
        by_cases hsk : (k : Int) = skip
        · have HM2 := hide (Hnx.out (.inl hsk))
          have hskb : ((k : Int) != skip) = false := by simpa using hsk
          have Hsk := hide hsk
          clear Hnx Htr hsk y0 z0 z1 z2 r0 r1 r2
          go_wp2_with fail
          go_quiet (fail)
          all_goals
            go_wp2_with fail
            exact ⟨⟨k + 1, hkl, by go_num, HM2, hide (below_drewN HC.out _)⟩, by simp [intOf]; omega⟩
        have hskb : ((k : Int) != skip) = true := by simpa using hsk
        obtain ⟨vk, vn, vs⟩ := v
        obtain ⟨wk, wn, ws⟩ := pv
        dsimp only at r0 r1 r2 z0 z1 z2
        by_cases he : (⟨wk, wn, ws⟩ : V) = ⟨vk, vn, vs⟩
        · have hg := Htr.out hsk he
          subst hg
          injection he with a1 a2 a3
          subst a1 a2 a3
          clear Hnx Htr hsk
          go_wp2_with fail
          go_quiet (fail)
          all_goals
            go_wp2_with fail
            go_ret
            exact ⟨rfl, below_then Ha0.out Ha0.out.size (below_drewN HD.out _)⟩
        have HM2 := hide (Hnx.out (.inr he))
        have h3 : wk ≠ vk ∨ (wk = vk ∧ wn ≠ vn) ∨ (wk = vk ∧ wn = vn ∧ (ws.toList == vs.toList) = false) := by
          by_cases a1 : wk = vk
          · by_cases a2 : wn = vn
            · right; right
              refine ⟨a1, a2, ?_⟩
              rw [beq_eq_false_iff_ne]
              intro h
              rw [ByteArray.toList_eq, ByteArray.toList_eq] at h
              exact he (V.ext_ a1 a2 (bytes_inj h))
            exact .inr (.inl ⟨a1, a2⟩)
          exact .inl a1
        clear Hnx Htr hsk he
        rcases h3 with h3 | ⟨rfl, h3⟩ | ⟨rfl, rfl, h3⟩
        all_goals
          go_wp2_with fail
          go_quiet (fail)
          all_goals
            go_wp2_with fail
            exact ⟨⟨k + 1, hkl, by go_num, HM2, hide (below_drewN HC.out _)⟩, by simp [intOf]; omega⟩
set_option maxHeartbeats 1600000 in
set_option maxRecDepth 100000 in
theorem runes2_any (s : ByteArray) (w : World) (hz : s.size ≤ 100000000) : Calls Tryz.prog 182 #[.string s] w fun e w' => e = .returned (.int .i64 (nRunes s)) ∧ Below w.heap.size w w' := by
  cases hv : Lib.validD s.data.toList with
  | true =>
    have hd := runes_ok s w hv hz
    have hn : nRunes s = ((runesL s.data.toList).length : Int) := by rw [nRunes, if_pos hv]
    rw [hn]
    obtain ⟨n, hn2⟩ : ∃ n, (runesL s.data.toList).length = n := ⟨_, rfl⟩
    rw [hn2] at hd ⊢
    have Hd := hide hd
    clear hd hn hn2 hv
    go_enter Tryz.func182, Tryz.ntmps182
    go_wp2_with fail
    refine Hd.out.mono ?_
    rintro e w2 ⟨A, c, rfl, _, hb⟩
    go_wp2_with fail
    go_ret
    exact ⟨rfl, hb⟩
  | false =>
    have hd := runes_bad s w hv hz
    have hn : nRunes s = -1 := by rw [nRunes, if_neg (by rw [hv]; decide)]
    rw [hn]
    have Hd := hide hd
    clear hd hn hv
    go_enter Tryz.func182, Tryz.ntmps182
    go_wp2_with fail
    refine Hd.out.mono ?_
    rintro e w2 ⟨rfl, hb⟩
    go_wp2_with fail
    go_ret
    exact ⟨rfl, hb⟩
theorem goCols_step {s : List Col} {i : Nat} (hi : i < s.length) : goCols (s.take i) (s.drop i) = (!((s.take i).any fun x => x.name.toList == s[i].name.toList) && (colB s[i] && goCols (s.take (i + 1)) (s.drop (i + 1)))) := by
  rw [List.drop_eq_getElem_cons hi, goCols, List.take_succ_eq_append_getElem hi]
theorem goCols_end {s : List Col} {i : Nat} (hi : s.length ≤ i) : goCols (s.take i) (s.drop i) = true := by
  rw [List.drop_of_length_le hi, goCols]
theorem goIxs_step {n : Nat} {s : List Ix} {i : Nat} (hi : i < s.length) : goIxs n (s.take i) (s.drop i) = (!((s.take i).any fun y => s[i].col == y.col) && (decide (1 ≤ s[i].col) && (decide (s[i].col < n) && goIxs n (s.take (i + 1)) (s.drop (i + 1))))) := by
  rw [List.drop_eq_getElem_cons hi, goIxs, List.take_succ_eq_append_getElem hi]
theorem goIxs_end {n : Nat} {s : List Ix} {i : Nat} (hi : s.length ≤ i) : goIxs n (s.take i) (s.drop i) = true := by
  rw [List.drop_of_length_le hi, goIxs]
theorem colB_eq (c : Col) : colB c = (nameB c.name && !(decide (c.kind < 1) || (decide (3 < c.kind) || ((decide (c.kind = 2) && (decide (c.max < 1) || decide (8 < c.max))) || (decide (c.kind ≠ 2) && decide (c.max ≠ 0)))))) := by
  unfold colB
  cases nameB c.name with
  | false => split <;> simp
  | true =>
    by_cases k2 : c.kind = 2
    · rw [if_pos k2]
      simp only [k2, Bool.true_and]
      by_cases h1 : 1 ≤ c.max
      · by_cases h2 : c.max ≤ 8
        · simp [h1, h2] <;> omega
        simp [h1, h2] <;> omega
      simp [h1] <;> omega
    rw [if_neg k2]
    by_cases k13 : c.kind = 1 ∨ c.kind = 3
    · rw [if_pos k13]
      have h1 : ¬ c.kind < 1 := by omega
      have h2 : ¬ 3 < c.kind := by omega
      by_cases hm : c.max = 0
      · simp [k2, h1, h2, hm]
      simp [k2, h1, h2, hm]
    rw [if_neg k13]
    by_cases h1 : c.kind < 1
    · simp [h1]
    have h2 : 3 < c.kind := by omega
    simp [h2]
set_option maxHeartbeats 6400000 in
set_option maxRecDepth 1000000 in
theorem right14_any (s : Sch) (a : Value) (w : World) (ha : SchV w s a) (hs : s.name.size ≤ 1000000000) (hcs : ∀ c ∈ s.cols, c.name.size ≤ 1000000000) (hcl : s.cols.length ≤ 1000000000) (hxl : s.ixs.length ≤ 1000000000) :
    Calls Tryz.prog 129 #[a] w fun e w' => e = .returned (.bool (rightS s)) ∧ Below w.heap.size w w' := by
  obtain ⟨CA, cc, XA, xc, rfl, _, _, hC, hX⟩ := ha
  obtain ⟨G, hG⟩ : ∃ G, rightS s = G := ⟨_, rfl⟩
  rw [hG]
  rw [rightS, preS] at hG
  have ha0 := (Below.refl w.heap.size w).alloc (Nat.le_refl _) (.cells #[.string s.name, .slice CA s.cols.length cc, .slice XA s.ixs.length xc] 25)
  have n0 := Blk.new w #[.string s.name, .slice CA s.cols.length cc, .slice XA s.ixs.length xc] 25
  obtain ⟨W1, hW1⟩ : ∃ W1, w.alloc (.cells #[.string s.name, .slice CA s.cols.length cc, .slice XA s.ixs.length xc] 25) = W1 := ⟨_, rfl⟩
  rw [hW1] at ha0 n0
  obtain ⟨cl, hc⟩ : ∃ cl, s.cols.length = cl := ⟨_, rfl⟩
  obtain ⟨xl, hx⟩ : ∃ xl, s.ixs.length = xl := ⟨_, rfl⟩
  obtain ⟨nb, hnb⟩ : ∃ nb, nameB s.name = nb := ⟨_, rfl⟩
  rw [hc] at hC n0 hW1 hcl hG ⊢
  rw [hx] at hX n0 hW1 hxl hG ⊢
  have hnm := fun W => name14_any s.name W (by omega)
  rw [hnb] at hG hnm
  have HC := hide (hC.below ha0)
  have HX := hide (hX.below ha0)
  have Ha0 := hide ha0
  have N0 := hide n0
  have Hc := hide hc
  have Hx := hide hx
  have Hnm := hide hnm
  have Hcs := hide hcs
  have p0 := n0.c 0 (v := .string s.name) rfl
  have p1 := n0.c 1 (v := .slice CA cl cc) rfl
  have p2 := n0.c 2 (v := .slice XA xl xc) rfl
  clear hC hX ha0 n0 hc hx hnm hcs hnb hs
  cases nb with
  | false =>
    have hg : G = false := by rw [← hG]; simp
    subst hg
    clear hG
    go_enter Tryz.func129, Tryz.ntmps129
    go_wp2_with fail
    refine (Hnm.out _).mono ?_
    rintro e w2 ⟨rfl, hq⟩
    have hq := hq.symm
    subst hq
    go_wp2_with fail
    go_ret
    exact ⟨rfl, Ha0.out⟩
  | true =>
    by_cases h1 : 1 ≤ cl ∧ cl ≤ 3 ∧ xl ≤ 3
    rotate_left
    · have hg : G = false := by
        rw [← hG]
        by_cases q1 : 1 ≤ cl
        · by_cases q2 : cl ≤ 3
          · have q3 : ¬ xl ≤ 3 := fun h => h1 ⟨q1, q2, h⟩
            simp [q3]
          simp [q2]
        simp [q1]
      subst hg
      have hcase : (cl : Int) < 1 ∨ (¬ (cl : Int) < 1 ∧ (3 : Int) < (cl : Int)) ∨ (¬ (cl : Int) < 1 ∧ ¬ (3 : Int) < (cl : Int) ∧ (3 : Int) < (xl : Int)) := by omega
      clear hG h1
      rcases hcase with i1 | ⟨i1, i2⟩ | ⟨i1, i2, i3⟩
      all_goals
        go_enter Tryz.func129, Tryz.ntmps129
        go_wp2_with fail
        refine (Hnm.out _).mono ?_
        rintro e w2 ⟨rfl, hq⟩
        have hq := hq.symm
        subst hq
        go_wp2_with fail
        go_ret
        exact ⟨rfl, Ha0.out⟩
    obtain ⟨h1, h2, h3⟩ := h1
    have hg2 : (goCols [] s.cols && goIxs cl [] s.ixs) = G := by
      rw [← hG, show decide (1 ≤ cl) = true by simpa using h1, show decide (cl ≤ 3) = true by simpa using h2, show decide (xl ≤ 3) = true by simpa using h3]; simp
    have HG := hide hg2
    have i1 : ¬ (cl : Int) < 1 := by omega
    have i2 : ¬ (3 : Int) < (cl : Int) := by omega
    have i3 : ¬ (3 : Int) < (xl : Int) := by omega
    clear hG hg2
    go_enter Tryz.func129, Tryz.ntmps129
    go_wp2_with fail
    refine (Hnm.out _).mono ?_
    rintro e w2 ⟨rfl, hq⟩
    have hq := hq.symm
    subst hq
    go_wp2_with fail
    clear hW1 p0 p1 p2 hcl hxl h1 h2 h3 i1 i2 i3 Hnm
    go_loopw [3] (fun iv wr => ∃ i : Nat, i ≤ cl ∧ iv = .int .i64 i ∧ Hid ((goCols (s.cols.take i) (s.cols.drop i) && goIxs cl [] s.ixs) = G) ∧ Hid (Below W1.heap.size W1 wr)) (fun iv _ => cl - (intOf iv).toNat)
    case atStart => exact ⟨0, Nat.zero_le _, rfl, HG, hide (Below.refl _ _)⟩
    case round =>
      clear HG
      obtain ⟨i, hi, rfl, HG, HB⟩ := hrel
      have f1 := (N0.out.below HB.out).c 1 (v := .slice CA cl cc) rfl
      by_cases hlt : i < cl
      rotate_left
      · have hie : i = cl := by omega
        subst hie
        have hg := HG.out
        rw [goCols_end (by rw [Hc.out]; exact Nat.le_refl _), Bool.true_and] at hg
        have HG2 := hide hg
        have hki : ¬ (i : Int) < (i : Int) := by omega
        clear hg HG
        go_wp2_with fail
        clear f1
        go_loopw [6] (fun kv wx => ∃ k : Nat, k ≤ xl ∧ kv = .int .i64 k ∧ Hid (goIxs i (s.ixs.take k) (s.ixs.drop k) = G) ∧ Hid (Below W1.heap.size W1 wx)) (fun kv _ => xl - (intOf kv).toNat)
        case atStart => exact ⟨0, Nat.zero_le _, rfl, HG2, HB⟩
        case round =>
          clear HG2 HB
          obtain ⟨j, hj, rfl, HG, HB⟩ := hrel
          have f1 := (N0.out.below HB.out).c 1 (v := .slice CA i cc) rfl
          have f2 := (N0.out.below HB.out).c 2 (v := .slice XA xl xc) rfl
          by_cases hjl : j < xl
          rotate_left
          · have hje : j = xl := by omega
            subst hje
            have hg := HG.out
            rw [goIxs_end (by rw [Hx.out]; exact Nat.le_refl _)] at hg
            subst hg
            have hki : ¬ (j : Int) < (j : Int) := by omega
            go_wp2_with fail
            go_ret
            exact ⟨rfl, below_chain Ha0.out HB.out⟩
          have hjx : j < s.ixs.length := by rw [Hx.out]; exact hjl
          obtain ⟨b, o, rfl, hcl2⟩ := Rd.struct Ix.cells_len s.ixs Hx.out (HX.out.below HB.out) j hjx
          obtain ⟨x, hx⟩ : ∃ x, s.ixs[j] = x := ⟨_, rfl⟩
          have hg := HG.out
          rw [goIxs_step hjx, hx] at hg
          rw [hx] at hcl2
          have hfn := fun (k : Nat) (hk : k < s.ixs.length) (hki : k < j) (he : s.ixs[k].col = x.col) => (show ((s.ixs.take j).any fun y => x.col == y.col) = true from by
            rw [List.any_eq_true]
            refine ⟨s.ixs[k], List.mem_iff_getElem.2 ⟨k, by simp; omega, by simp⟩, ?_⟩
            rw [he]; simp)
          have hno := fun (h : ∀ k (hk : k < s.ixs.length), k < j → s.ixs[k].col ≠ x.col) => (show ((s.ixs.take j).any fun y => x.col == y.col) = false from by
            rw [List.any_eq_false]
            intro y hy
            obtain ⟨k, hk, rfl⟩ := List.mem_iff_getElem.1 hy
            simp at hk
            have := h k (by omega) (by omega)
            rw [List.getElem_take]
            simp only [beq_iff_eq]
            exact fun h => this h.symm)
          obtain ⟨dup, hdup⟩ : ∃ dup, ((s.ixs.take j).any fun y => x.col == y.col) = dup := ⟨_, rfl⟩
          rw [hdup] at hfn hno hg
          obtain ⟨xk, xu⟩ := x
          have x0 : C wr b (o + j * 2) (.int .i64 xk) := hcl2 0 (by omega)
          have x1 : C wr b (o + j * 2 + 1) (.bool xu) := hcl2 1 (by omega)
          dsimp only at hg hfn hno
          have Hfn := hide hfn
          have Hno := hide hno
          have hal := (Below.refl wr.heap.size wr).alloc (Nat.le_refl _) (.cells #[.int .i64 xk, .bool xu] 68)
          have nx := Blk.new wr #[.int .i64 xk, .bool xu] 68
          have HB2 := hide (below_then HB.out HB.out.size hal)
          have hjj : (j : Int) < (xl : Int) := by omega
          clear hcl2 hx hdup hal hfn hno HG
          by_cases hbad : xk < 1 ∨ (¬ xk < 1 ∧ (i : Int) ≤ xk)
          · have hgf : G = false := by
              rw [← hg]
              rcases hbad with h | ⟨_, h⟩
              · rw [show decide (1 ≤ xk) = false by simp; omega]; simp
              rw [show decide (xk < i) = false by simp; omega]; simp
            subst hgf
            have g1 := (N0.out.below HB2.out).c 1 (v := .slice CA i cc) rfl
            clear hg nx
            rcases hbad with b1 | ⟨b1, b2⟩
            all_goals
              go_wp2_with fail
              go_ret
              exact ⟨rfl, below_chain Ha0.out HB2.out⟩
          have b1 : ¬ xk < 1 := fun h => hbad (.inl h)
          have b2 : ¬ (i : Int) ≤ xk := fun h => hbad (.inr ⟨b1, h⟩)
          rw [show decide (1 ≤ xk) = true by simp; omega, show decide (xk < i) = true by simp; omega, Bool.true_and, Bool.true_and] at hg
          have HG := hide hg
          obtain ⟨W2, hW2⟩ : ∃ W2, wr.alloc (.cells #[.int .i64 xk, .bool xu] 68) = W2 := ⟨_, rfl⟩
          obtain ⟨xb, hxb⟩ : ∃ xb, wr.heap.size = xb := ⟨_, rfl⟩
          rw [hW2] at nx HB2
          rw [hxb] at nx
          have y0 := nx.c 0 (v := .int .i64 xk) rfl
          have y1 := nx.c 1 (v := .bool xu) rfl
          have g1 := (N0.out.below HB2.out).c 1 (v := .slice CA i cc) rfl
          have Nx := hide nx
          clear hg hbad nx
          go_wp2_with fail
          clear hW2 hxb
          clear y0 y1 x0 x1 f1 f2 g1 b1 b2
          go_loopw [8] (fun kv wy => ∃ k : Nat, k ≤ j ∧ kv = .int .i64 k ∧ Hid (∀ q (h : q < s.ixs.length), q < k → s.ixs[q].col ≠ xk) ∧ Hid (Below W2.heap.size W2 wy)) (fun kv _ => j - (intOf kv).toNat)
          case atStart => exact ⟨0, Nat.zero_le _, rfl, hide (fun j h hj => by omega), hide (Below.refl _ _)⟩
          case round =>
            obtain ⟨k, hk, rfl, HM, HD⟩ := hrel
            have HE := hide (below_then HB2.out HB2.out.size HD.out)
            have f2 := (N0.out.below HE.out).c 2 (v := .slice (some ⟨b, o, none⟩) xl xc) rfl
            have y0 := (Nx.out.below HD.out).c 0 (v := .int .i64 xk) rfl
            by_cases hki : k < j
            rotate_left
            · have hke : k = j := by omega
              subst hke
              have hd := Hno.out HM.out
              have hg2 := HG.out
              rw [hd, Bool.not_false, Bool.true_and] at hg2
              have HG2 := hide hg2
              have hkI : ¬ (k : Int) < (k : Int) := by omega
              clear hg2 hd
              go_wp2_with fail
              exact ⟨⟨k + 1, hjl, by go_num, HG2, HE⟩, by simp [intOf]; omega⟩
            have hkc : k < s.ixs.length := by omega
            obtain ⟨b', o', hbo, hcl3⟩ := Rd.struct Ix.cells_len s.ixs Hx.out (HX.out.below HE.out) k hkc
            injection hbo with hbo
            injection hbo with e1 e2 _
            subst e1 e2
            obtain ⟨nk, hnk⟩ : ∃ nk, s.ixs[k].col = nk := ⟨_, rfl⟩
            have z0 : C wr b (o + k * 2) (.int .i64 nk) := by have := hcl3 0 (by omega); rw [← hnk]; exact this
            have hkI : (k : Int) < (j : Int) := by omega
            have hkC : (k : Int) < (xl : Int) := by omega
            by_cases he : nk = xk
            · have hd := Hfn.out k hkc hki (hnk.trans he)
              have hgf : G = false := by rw [← HG.out, hd]; simp
              subst hgf
              subst he
              clear hd hcl3 hnk
              go_wp2_with fail
              go_quiet (fail)
              all_goals
                go_wp2_with fail
                go_ret
                exact ⟨rfl, below_then Ha0.out Ha0.out.size (below_drewN HE.out _)⟩
            have hne : (nk == xk) = false := by simpa using he
            have HM2 : Hid (∀ q (h : q < s.ixs.length), q < k + 1 → s.ixs[q].col ≠ xk) := hide fun q h hj => by
              rcases Nat.lt_or_eq_of_le (Nat.le_of_lt_succ hj) with h4 | h4
              · exact HM.out q h h4
              subst h4; rw [hnk]; exact he
            clear hcl3 hnk he
            go_wp2_with fail
            go_quiet (fail)
            all_goals
              go_wp2_with fail
              exact ⟨⟨k + 1, hki, by go_num, HM2, hide (below_drewN HD.out _)⟩, by simp [intOf]; omega⟩
      have hic : i < s.cols.length := by rw [Hc.out]; exact hlt
      obtain ⟨b, o, rfl, hcl2⟩ := Rd.struct Col.cells_len s.cols Hc.out (HC.out.below HB.out) i hic
      obtain ⟨co, hco⟩ : ∃ co, s.cols[i] = co := ⟨_, rfl⟩
      have hz := Hcs.out co (hco ▸ List.getElem_mem hic)
      have hg := HG.out
      rw [goCols_step hic, hco, colB_eq] at hg
      rw [hco] at hcl2
      have hnn := fun W => name14_any co.name W (by omega)
      have hfn := fun (k : Nat) (hk : k < s.cols.length) (hki : k < i) (he : s.cols[k].name = co.name) => (show ((s.cols.take i).any fun x => x.name.toList == co.name.toList) = true from by
        rw [List.any_eq_true]
        refine ⟨s.cols[k], List.mem_iff_getElem.2 ⟨k, by simp; omega, by simp⟩, ?_⟩
        rw [he]; simp)
      have hno := fun (h : ∀ k (hk : k < s.cols.length), k < i → s.cols[k].name ≠ co.name) => (show ((s.cols.take i).any fun x => x.name.toList == co.name.toList) = false from by
        rw [List.any_eq_false]
        intro x hx
        obtain ⟨k, hk, rfl⟩ := List.mem_iff_getElem.1 hx
        simp at hk
        have := h k (by omega) (by omega)
        rw [List.getElem_take]
        simp only [beq_iff_eq]
        intro h
        rw [ByteArray.toList_eq, ByteArray.toList_eq] at h
        exact this (bytes_inj h))
      obtain ⟨dup, hdup⟩ : ∃ dup, ((s.cols.take i).any fun x => x.name.toList == co.name.toList) = dup := ⟨_, rfl⟩
      rw [hdup] at hfn hno hg
      obtain ⟨nm, kk, km⟩ := co
      have x0 : C wr b (o + i * 3) (.string nm) := hcl2 0 (by omega)
      have x1 : C wr b (o + i * 3 + 1) (.int .i64 kk) := hcl2 1 (by omega)
      have x2 : C wr b (o + i * 3 + 2) (.int .i64 km) := hcl2 2 (by omega)
      dsimp only at hg hnn hz hfn hno
      obtain ⟨nb, hnb⟩ : ∃ nb, nameB nm = nb := ⟨_, rfl⟩
      rw [hnb] at hg hnn
      have Hnn := hide hnn
      have Hfn := hide hfn
      have Hno := hide hno
      have hal := (Below.refl wr.heap.size wr).alloc (Nat.le_refl _) (.cells #[.string nm, .int .i64 kk, .int .i64 km] 49)
      have nx := Blk.new wr #[.string nm, .int .i64 kk, .int .i64 km] 49
      have HB2 := hide (below_then HB.out HB.out.size hal)
      have hii : (i : Int) < (cl : Int) := by omega
      clear hnn hnb hcl2 hco hz hdup hal hfn hno HG
      cases nb with
      | false =>
        have hgf : G = false := by rw [← hg]; simp
        subst hgf
        clear hg nx
        go_wp2_with fail
        refine (Hnn.out _).mono ?_
        rintro e w2 ⟨rfl, hq⟩
        have hq := hq.symm
        subst hq
        go_wp2_with fail
        go_ret
        exact ⟨rfl, below_chain Ha0.out HB2.out⟩
      | true =>
        by_cases hbad : kk < 1 ∨ 3 < kk ∨ (kk = 2 ∧ (km < 1 ∨ 8 < km)) ∨ (kk ≠ 2 ∧ km ≠ 0)
        · have hgf : G = false := by
            rw [← hg]
            rcases hbad with h | h | ⟨h, h1⟩ | ⟨h, h1⟩
            · simp [h]
            · simp [h]
            · rcases h1 with h1 | h1 <;> simp [h, h1]
            simp [h, h1]
          subst hgf
          have hbad2 : kk < 1 ∨ (¬ kk < 1 ∧ 3 < kk) ∨ (¬ kk < 1 ∧ ¬ 3 < kk ∧ kk = 2 ∧ km < 1) ∨ (¬ kk < 1 ∧ ¬ 3 < kk ∧ kk = 2 ∧ ¬ km < 1 ∧ 8 < km) ∨ (¬ kk < 1 ∧ ¬ 3 < kk ∧ (kk == 2) = false ∧ (kk != 2) = true ∧ (km != 0) = true) := by
            by_cases b1 : kk < 1
            · exact .inl b1
            by_cases b2 : 3 < kk
            · exact .inr (.inl ⟨b1, b2⟩)
            by_cases b3 : kk = 2
            · by_cases b4 : km < 1
              · exact .inr (.inr (.inl ⟨b1, b2, b3, b4⟩))
              exact .inr (.inr (.inr (.inl ⟨b1, b2, b3, b4, by omega⟩)))
            exact .inr (.inr (.inr (.inr ⟨b1, b2, by simpa using b3, by simpa using b3, by simp; omega⟩)))
          clear hg hbad nx
          rcases hbad2 with b1 | ⟨b1, b2⟩ | ⟨b1, b2, rfl, b3⟩ | ⟨b1, b2, rfl, b3, b4⟩ | ⟨b1, b2, b3, b4, b5⟩
          all_goals
            go_wp2_with fail
            refine (Hnn.out _).mono ?_
            rintro e w2 ⟨rfl, hq⟩
            have hq := hq.symm
            subst hq
            go_wp2_with fail
            go_ret
            exact ⟨rfl, below_chain Ha0.out HB2.out⟩
        have hgt : ((!dup) && goCols (s.cols.take (i + 1)) (s.cols.drop (i + 1)) && goIxs cl [] s.ixs) = G := by
          rw [← hg]
          congr 1
          congr 1
          have c1 : ¬ kk < 1 := fun h => hbad (.inl h)
          have c2 : ¬ 3 < kk := fun h => hbad (.inr (.inl h))
          by_cases c3 : kk = 2
          · have c4 : ¬ km < 1 := fun h => hbad (.inr (.inr (.inl ⟨c3, .inl h⟩)))
            have c5 : ¬ 8 < km := fun h => hbad (.inr (.inr (.inl ⟨c3, .inr h⟩)))
            simp [c3, c4, c5]
          have c4 : km = 0 := Classical.byContradiction fun h => hbad (.inr (.inr (.inr ⟨c3, h⟩)))
          simp [c1, c2, c3, c4]
        have hok : (¬ kk < 1 ∧ ¬ 3 < kk ∧ kk = 2 ∧ ¬ km < 1 ∧ ¬ 8 < km) ∨ (¬ kk < 1 ∧ ¬ 3 < kk ∧ (kk == 2) = false ∧ (kk != 2) = true ∧ (km != 0) = false) := by
          by_cases b3 : kk = 2
          · exact .inl (by omega)
          exact .inr ⟨by omega, by omega, by simpa using b3, by simpa using b3, by simp; omega⟩
        have HG := hide hgt
        obtain ⟨W2, hW2⟩ : ∃ W2, wr.alloc (.cells #[.string nm, .int .i64 kk, .int .i64 km] 49) = W2 := ⟨_, rfl⟩
        obtain ⟨xb, hxb⟩ : ∃ xb, wr.heap.size = xb := ⟨_, rfl⟩
        rw [hW2] at nx HB2
        rw [hxb] at nx
        have y0 := nx.c 0 (v := .string nm) rfl
        have y1 := nx.c 1 (v := .int .i64 kk) rfl
        have y2 := nx.c 2 (v := .int .i64 km) rfl
        have Nx := hide nx
        clear hg hgt hbad nx
        rcases hok with ⟨b1, b2, rfl, b3, b4⟩ | ⟨b1, b2, b3, b4, b5⟩
        all_goals
          go_wp2_with fail
          refine (Hnn.out _).mono ?_
          rintro e w2 ⟨rfl, hq⟩
          have hq := hq.symm
          subst hq
          go_wp2_with fail
          clear hW2 hxb
          clear y0 y1 y2 x0 x1 x2 f1 b1 b2 b3 b4 Hnn
          go_loopw [5] (fun kv wx => ∃ k : Nat, k ≤ i ∧ kv = .int .i64 k ∧ Hid (∀ j (h : j < s.cols.length), j < k → s.cols[j].name ≠ nm) ∧ Hid (Below W2.heap.size W2 wx)) (fun kv _ => i - (intOf kv).toNat)
          case atStart => exact ⟨0, Nat.zero_le _, rfl, hide (fun j h hj => by omega), hide (Below.refl _ _)⟩
          case round =>
            obtain ⟨k, hk, rfl, HM, HD⟩ := hrel
            have HE := hide (below_then HB2.out HB2.out.size HD.out)
            have f1 := (N0.out.below HE.out).c 1 (v := .slice (some ⟨b, o, none⟩) cl cc) rfl
            have y0 := (Nx.out.below HD.out).c 0 (v := .string nm) rfl
            by_cases hki : k < i
            rotate_left
            · have hke : k = i := by omega
              subst hke
              have hd := Hno.out HM.out
              have hg2 := HG.out
              rw [hd, Bool.not_false, Bool.true_and] at hg2
              have HG2 := hide hg2
              have hkI : ¬ (k : Int) < (k : Int) := by omega
              clear hg2 hd
              go_wp2_with fail
              exact ⟨⟨k + 1, hlt, by go_num, HG2, HE⟩, by simp [intOf]; omega⟩
            have hkc : k < s.cols.length := by omega
            obtain ⟨b', o', hbo, hcl3⟩ := Rd.struct Col.cells_len s.cols Hc.out (HC.out.below HE.out) k hkc
            injection hbo with hbo
            injection hbo with e1 e2 _
            subst e1 e2
            obtain ⟨nk, hnk⟩ : ∃ nk, s.cols[k].name = nk := ⟨_, rfl⟩
            have z0 : C wr b (o + k * 3) (.string nk) := by have := hcl3 0 (by omega); rw [← hnk]; exact this
            have hkI : (k : Int) < (i : Int) := by omega
            have hkC : (k : Int) < (cl : Int) := by omega
            by_cases he : nk = nm
            · have hd := Hfn.out k hkc hki (hnk.trans he)
              have hgf : G = false := by rw [← HG.out, hd]; simp
              subst hgf
              subst he
              clear hd hcl3 hnk
              go_wp2_with fail
              go_quiet (fail)
              all_goals
                go_wp2_with fail
                go_ret
                exact ⟨rfl, below_then Ha0.out Ha0.out.size (below_drewN HE.out _)⟩
            have hne : (nk.toList == nm.toList) = false := by
              rw [beq_eq_false_iff_ne]
              intro h
              rw [ByteArray.toList_eq, ByteArray.toList_eq] at h
              exact he (bytes_inj h)
            have HM2 : Hid (∀ j (h : j < s.cols.length), j < k + 1 → s.cols[j].name ≠ nm) := hide fun j h hj => by
              rcases Nat.lt_or_eq_of_le (Nat.le_of_lt_succ hj) with h4 | h4
              · exact HM.out j h h4
              subst h4; rw [hnk]; exact he
            clear hcl3 hnk he
            go_wp2_with fail
            go_quiet (fail)
            all_goals
              go_wp2_with fail
              exact ⟨⟨k + 1, hki, by go_num, HM2, hide (below_drewN HD.out _)⟩, by simp [intOf]; omega⟩
theorem wp_region_bel {P : Program} {id : Nat} {Q : Exit → Act → World → Prop} {a : Act} {w : World} {l : List Oper} (hm : P.follows .mixedOrders = true) (hB : Region.lexB .any l.toArray = true)
    (h : ∀ (X : Type) (_ : Nonempty X) (f : X → World), (∀ x, Below w.heap.size w (f x)) → (∀ w', Below w.heap.size w w' → ∃ x, w' = f x) →
      wpQuiet P l.toArray (fun w' => ∃ x, w' = f x) (fun a' => ∀ w', (∃ x, w' = f x) → Q .normal a' w') l a) : (Code.region id l.toArray true).wp P Q a w :=
  wp_region_quiet (C := fun w' => ∃ x : {w' : World // Below w.heap.size w w'}, w' = x.1) hm hB ⟨⟨_, (Below.refl _ w).drew⟩, rfl⟩ (by
    have := h {w' : World // Below w.heap.size w w'} ⟨⟨_, (Below.refl _ w).drew⟩⟩ Subtype.val (fun x => x.2) (fun w' hw => ⟨⟨w', hw⟩, rfl⟩)
    simpa using this)
structure OkW (W : List Tb) : Prop where
  n4 : W.length ≤ 4
  right : ∀ U ∈ W, rightS U.s = true
  rows : ∀ U ∈ W, ∀ r ∈ U.rows, r.length = U.s.cols.length ∧ ∀ k, okV (col r k)
  n64 : ∀ U ∈ W, U.rows.length ≤ 64
theorem OkW.pos {W : List Tb} (h : OkW W) {U : Tb} (hU : U ∈ W) : ∀ r ∈ U.rows, 0 < r.length ∧ okV (col r 0) := fun r hr => by
  obtain ⟨h1, h2⟩ := h.rows U hU r hr
  have := (right_facts (h.right U hU)).c1
  exact ⟨by omega, h2 0⟩
theorem fnd_lt {key : V} : ∀ {L : List (List V)}, (fnd key L).2 = true → (fnd key L).1 < L.length
  | [], h => by simp [fnd] at h
  | r :: L, h => by
    rw [fnd] at h ⊢
    split at h
    · rename_i h1
      rw [if_pos h1]
      have := fnd_lt h
      simp; omega
    rename_i h1
    rw [if_neg h1]; simp
theorem fnd_le {key : V} : ∀ {L : List (List V)}, (fnd key L).1 ≤ L.length
  | [] => Nat.zero_le _
  | r :: L => by
    rw [fnd]
    split
    · have := fnd_le (key := key) (L := L)
      simp; omega
    simp
def delE15 (W : List Tb) (nm : ByteArray) (key : V) : Int := match findT W nm 0 with
  | none => 60
  | some (_, U) => if rightV key = 0 then (if (fnd key U.rows).2 then 0 else 4) else 62
def getR15 (W : List Tb) (nm : ByteArray) (key : V) : List V := match findT W nm 0 with
  | none => []
  | some (_, U) => if rightV key = 0 then (if (fnd key U.rows).2 then U.rows.getD (fnd key U.rows).1 [] else []) else []
theorem atD_some {W : List Tb} {nm : ByteArray} {i : Nat} {U : Tb} (h : findT W nm 0 = some (i, U)) : atD W nm = i := by rw [atD, h]
theorem atD_no {W : List Tb} {nm : ByteArray} (h : findT W nm 0 = none) : atD W nm = -1 := by rw [atD, h]
def Got15 (r : List V) (E : Int) (e : Ending) (w' : World) : Prop := ∃ RA c', e = .returned (.tuple #[.slice RA r.length c', .int .i64 E]) ∧ Rd w' 3 RA r.length (rowCells r)
set_option maxHeartbeats 3200000 in
set_option maxRecDepth 1000000 in
theorem get15_any {F : Nat → Prop} (A : Option Addr) (n c : Nat) (W : List Tb) (nm : ByteArray) (key : V) (w : World) (hW : DBR F w A n W) (ho : OkW W) (hk : wf64 key.n) (hz : key.s.size ≤ 4000000) :
    Calls Tryz.prog 80 #[.agg #[.slice A n c], .string nm, key.val] w fun e w' => Got15 (getR15 W nm key) (delE15 W nm key) e w' ∧ Below w.heap.size w w' := by
  obtain ⟨kk, kn, ks⟩ := key
  have hn4 : n ≤ 4 := hW.1 ▸ ho.n4
  have ha0 := (Below.refl w.heap.size w).alloc (Nat.le_refl _) (.cells #[.slice A n c] 73)
  have ha1 := ha0.alloc ha0.size (.cells #[.int .i64 kk, .int .i64 kn, .string ks] 28)
  have n0 := (Blk.new w #[.slice A n c] 73).alloc (.cells #[.int .i64 kk, .int .i64 kn, .string ks] 28)
  have n1 := Blk.new (w.alloc (.cells #[.slice A n c] 73)) #[.int .i64 kk, .int .i64 kn, .string ks] 28
  rw [show (w.alloc (.cells #[.slice A n c] 73)).heap.size = w.heap.size + 1 by simp] at n1
  obtain ⟨W1, hW1⟩ : ∃ W1, (w.alloc (.cells #[.slice A n c] 73)).alloc (.cells #[.int .i64 kk, .int .i64 kn, .string ks] 28) = W1 := ⟨_, rfl⟩
  rw [hW1] at n0 n1 ha1
  have hat := at15_any A n c W nm W1 (hW.below ha1) (by omega)
  have HW := hide (hW.below ha1)
  have Ha1 := hide ha1
  have N0 := hide n0
  have N1 := hide n1
  have Hl := hide hW.1
  clear ha0 ha1 n0 n1 hW
  show Calls Tryz.prog 80 #[.agg #[.slice A n c], .string nm, .agg #[.int .i64 kk, .int .i64 kn, .string ks]] w _
  cases hf : findT W nm 0 with
  | none =>
    rw [atD_no hf] at hat
    have Hat := hide hat
    have e1 : delE15 W nm ⟨kk, kn, ks⟩ = 60 := by rw [delE15, hf]
    have e2 : getR15 W nm ⟨kk, kn, ks⟩ = [] := by rw [getR15, hf]
    rw [e1, e2]
    have b0 := N0.out.c 0 (v := .slice A n c) rfl
    clear hat hf e1 e2
    go_enter Tryz.func80, Tryz.ntmps80
    go_wp2_with fail
    refine Hat.out.mono ?_
    rintro e w2 ⟨rfl, hb2⟩
    go_wp2_with fail
    go_ret2
    exact ⟨⟨none, 0, rfl, Rd.nil _ _ _⟩, below_chain Ha1.out hb2⟩
  | some p =>
    obtain ⟨i, U⟩ := p
    rw [atD_some hf] at hat
    have Hat := hide hat
    obtain ⟨hU, hUn⟩ := findT_at hf
    have hUm := List.mem_of_getElem? hU
    obtain ⟨hiW, hUe⟩ := List.getElem?_eq_some_iff.1 hU
    have hin : i < n := by rw [← Hl.out]; exact hiW
    obtain ⟨rv, hrv⟩ : ∃ rv, rightV ⟨kk, kn, ks⟩ = rv := ⟨_, rfl⟩
    have hright := fun W => right2_any ⟨kk, kn, ks⟩ W (by show ks.size ≤ _; have : ks.size ≤ 4000000 := hz; omega)
    rw [hrv] at hright
    have e1 : delE15 W nm ⟨kk, kn, ks⟩ = if rv = 0 then (if (fnd ⟨kk, kn, ks⟩ U.rows).2 then 0 else 4) else 62 := by rw [delE15, hf]; simp only [hrv]
    have e2 : getR15 W nm ⟨kk, kn, ks⟩ = if rv = 0 then (if (fnd ⟨kk, kn, ks⟩ U.rows).2 then U.rows.getD (fnd ⟨kk, kn, ks⟩ U.rows).1 [] else []) else [] := by rw [getR15, hf]; simp only [hrv]
    rw [e1, e2]
    have hflt := @fnd_lt ⟨kk, kn, ks⟩ U.rows
    obtain ⟨fk, fb, hF⟩ : ∃ fk fb, fnd ⟨kk, kn, ks⟩ U.rows = (fk, fb) := ⟨_, _, rfl⟩
    rw [hF] at hflt ⊢
    simp only at hflt ⊢
    have HF := hide hF
    have Hflt := hide hflt
    have hii : (i : Int) < (n : Int) := by omega
    have hi0 : ¬ (i : Int) < 0 := by omega
    have Hright := hide hright
    have Hrv := hide hrv
    have b0 := N0.out.c 0 (v := .slice A n c) rfl
    clear hat hright e1 e2 hrv hF hflt
    go_enter Tryz.func80, Tryz.ntmps80
    go_wp2_with fail
    refine Hat.out.mono ?_
    rintro e w2 ⟨rfl, hb2⟩
    have k1 := N1.out.below hb2
    have c0 := k1.c 0 (v := .int .i64 kk) rfl
    have c1 := k1.c 1 (v := .int .i64 kn) rfl
    have c2 := k1.c 2 (v := .string ks) rfl
    have HB2 := hide hb2
    clear Hat hb2 k1 b0
    go_wp2_with fail
    refine (Hright.out w2).mono ?_
    rintro e w3 ⟨rfl, hb3⟩
    have HB3 := hide (below_then HB2.out HB2.out.size hb3)
    clear hb3 c0 c1 c2
    by_cases h0 : rv = 0
    rotate_left
    · have t1 : (rv != 0) = true := by simpa using h0
      go_wp2_with fail
      go_ret2
      exact ⟨⟨none, 0, rfl, Rd.nil _ _ _⟩, below_chain Ha1.out HB3.out⟩
    subst h0
    have hkey : okV ⟨kk, kn, ks⟩ := ⟨Hrv.out, hk, hz⟩
    obtain ⟨b, o, CA, cc, XA, xc, RA, rc, rfl, _, _, _, x3, _, _, _, _, _, hrows⟩ := (HW.out.below HB3.out).at_ i hin hiW
    rw [hUe] at x3 hrows
    have b0 := (N0.out.below HB3.out).c 0 (v := .slice (some ⟨b, o, none⟩) n c) rfl
    have k3 := N1.out.below HB3.out
    have c0 := k3.c 0 (v := .int .i64 kk) rfl
    have c1 := k3.c 1 (v := .int .i64 kn) rfl
    have c2 := k3.c 2 (v := .string ks) rfl
    have hfind := fun W' (hb : Below w3.heap.size w3 W') => find15_any RA U.rows.length rc U.rows ⟨kk, kn, ks⟩ W' (hrows.below hb) (ho.pos hUm) hkey (by have := ho.n64 U hUm; omega)
    have hn64 := ho.n64 U hUm
    rw [HF.out] at hfind
    simp only at hfind
    have hflt := Hflt.out
    obtain ⟨rn, hrn⟩ : ∃ rn, U.rows.length = rn := ⟨_, rfl⟩
    rw [hrn] at x3 hrows hfind hflt hn64
    have Hrn := hide hrn
    have Hrows := hide hrows
    have Hfind := hide hfind
    have Hflt2 := hide hflt
    clear hfind hrows hflt hrn hkey k3 Hflt HF
    go_wp2_with fail
    refine wp_region_bel (by kernel_rfl) (by kernel_rfl) ?_
    intro X hX f hfb hfs
    have y3 : ∀ x, (f x).cell? ⟨b, o + i * 4 + 3, none⟩ = some (.slice RA rn rc) := fun x => x3.below (hfb x)
    have z0 : ∀ x, (f x).cell? ⟨w.heap.size, 0, none⟩ = some (.slice (some ⟨b, o, none⟩) n c) := fun x => b0.below (hfb x)
    have g0 : ∀ x, (f x).cell? ⟨w.heap.size + 1, 0, none⟩ = some (.int .i64 kk) := fun x => c0.below (hfb x)
    have g1 : ∀ x, (f x).cell? ⟨w.heap.size + 1, 1, none⟩ = some (.int .i64 kn) := fun x => c1.below (hfb x)
    have g2 : ∀ x, (f x).cell? ⟨w.heap.size + 1, 2, none⟩ = some (.string ks) := fun x => c2.below (hfb x)
    repeat (go_big_quiet_step ((refine (Hfind.out _ (hfb _)).mono ?_; rintro e w' ⟨rfl, hb⟩; exact ⟨rfl, hfs w' (below_then (hfb _) (hfb _).size hb)⟩)))
    refine wpQuiet_nil ?_
    rintro w4 ⟨x, rfl⟩
    have HB4 := hide (below_then HB3.out HB3.out.size (hfb x))
    have yy3 := y3 x
    have zz0 := z0 x
    obtain ⟨w5, hw5⟩ : ∃ w5, f x = w5 := ⟨_, rfl⟩
    rw [hw5] at HB4 yy3 zz0 ⊢
    have hbx := hw5 ▸ hfb x
    have HR5 := hide (Hrows.out.below hbx)
    clear hfs hbx hw5 hfb g0 g1 g2 y3 z0 b0 x3 c0 c1 c2
    clear x f hX X
    cases fb with
    | false =>
      go_wp2_with fail
      go_ret2
      exact ⟨⟨none, 0, rfl, Rd.nil _ _ _⟩, below_chain Ha1.out HB4.out⟩
    | true =>
      have hfl := Hflt2.out rfl
      obtain ⟨rb, ro, Aj, cj, rfl, v0, hrd, _⟩ := HR5.out.at_ fk hfl (by rw [Hrn.out]; exact hfl)
      have hfi : (fk : Int) < (rn : Int) := by omega
      have hgd : U.rows[fk]?.getD [] = U.rows[fk]'(by rw [Hrn.out]; exact hfl) := by rw [List.getElem?_eq_getElem (by rw [Hrn.out]; exact hfl)]; rfl
      obtain ⟨r, hr⟩ : ∃ r, U.rows[fk]'(by rw [Hrn.out]; exact hfl) = r := ⟨_, rfl⟩
      rw [hr] at v0 hrd hgd
      have Hrd := hide hrd
      have Hgd := hide hgd
      clear hgd hr hrd
      go_wp2_with fail
      go_ret2
      rw [Hgd.out]
      exact ⟨⟨Aj, cj, rfl, Hrd.out⟩, below_chain Ha1.out HB4.out⟩
end Go.Proofs.YtekokogmnhlchaaGreatDoor
