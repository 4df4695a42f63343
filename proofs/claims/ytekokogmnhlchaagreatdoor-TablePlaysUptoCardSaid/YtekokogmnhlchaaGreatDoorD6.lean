import Derived.Test.YtekokogmnhlchaaGreatDoorA4
import Derived.Test.YtekokogmnhlchaaGreatDoorA6
set_option linter.unusedSimpArgs false
set_option linter.unusedVariables false
set_option linter.unusedSectionVars false
namespace Go.Proofs.YtekokogmnhlchaaGreatDoor
open Go.RowKit
def sgn (a b : Int) : Int := if a < b then -1 else if b < a then 1 else 0
set_option maxHeartbeats 1600000 in
theorem sign_any (a b : Int) (w : World) : Calls Tryz.prog 75 #[.int .i64 a, .int .i64 b] w fun e w' => e = .returned (.int .i64 (sgn a b)) ∧ w' = w := by
  rcases Int.lt_trichotomy a b with h | h | h
  · have hr : sgn a b = -1 := by simp [sgn, h]
    rw [hr]
    clear hr
    go_enter Tryz.func75, Tryz.ntmps75
    go_wp2_with fail
    go_ret
    exact ⟨rfl, rfl⟩
  · subst h
    have hr : sgn a a = 0 := by simp [sgn]
    rw [hr]
    clear hr
    go_enter Tryz.func75, Tryz.ntmps75
    go_wp2_with fail
    go_ret
    exact ⟨rfl, rfl⟩
  have h' : ¬ a < b := by omega
  have hr : sgn a b = 1 := by simp [sgn, h, h']
  rw [hr]
  clear hr
  go_enter Tryz.func75, Tryz.ntmps75
  go_wp2_with fail
  go_ret
  exact ⟨rfl, rfl⟩
set_option maxHeartbeats 1600000 in
set_option maxRecDepth 100000 in
theorem one_num (x y : V) (w : World) (h : x.k ≠ y.k ∨ x.k ≠ 2) : Calls Tryz.prog 74 #[x.val, y.val] w fun e w' => e = .returned (.int .i64 (if x.k ≠ y.k then sgn x.k y.k else sgn x.n y.n)) ∧ Below w.heap.size w w' := by
  obtain ⟨xk, xn, xs⟩ := x
  obtain ⟨yk, yn, ys⟩ := y
  show Calls Tryz.prog 74 #[.agg #[.int .i64 xk, .int .i64 xn, .string xs], .agg #[.int .i64 yk, .int .i64 yn, .string ys]] w _
  dsimp only at h ⊢
  have hal := ((Below.refl w.heap.size w).alloc (Nat.le_refl _) (.cells #[.int .i64 xk, .int .i64 xn, .string xs] 28))
  have hal2 := hal.alloc hal.size (.cells #[.int .i64 yk, .int .i64 yn, .string ys] 28)
  have Hal := hide hal2
  clear hal hal2
  by_cases hk : xk = yk
  · subst hk
    have h2 : xk ≠ 2 := by simpa using h
    have t1 : (xk != xk) = false := by simp
    have t2 : (xk != 2) = true := by simpa using h2
    rw [if_neg (by simp)]
    have hs := fun W => sign_any xn yn W
    have Hs := hide hs
    clear hs h
    go_enter Tryz.func74, Tryz.ntmps74
    go_wp2_with fail
    refine (Hs.out _).mono ?_
    rintro e w2 ⟨rfl, rfl⟩
    go_wp2_with fail
    go_ret
    exact ⟨rfl, Hal.out⟩
  have t1 : (xk != yk) = true := by simpa using hk
  rw [if_pos hk]
  have hs := fun W => sign_any xk yk W
  have Hs := hide hs
  clear hs h
  go_enter Tryz.func74, Tryz.ntmps74
  go_wp2_with fail
  refine (Hs.out _).mono ?_
  rintro e w2 ⟨rfl, rfl⟩
  go_wp2_with fail
  go_ret
  exact ⟨rfl, Hal.out⟩
set_option maxHeartbeats 1600000 in
set_option maxRecDepth 100000 in
theorem same_any (A B : Option Addr) (n c m d : Nat) (xs ys : List V) (w : World) (hlx : xs.length = n) (hly : ys.length = m) (hx : Rd w 3 A n (rowCells xs)) (hy : Rd w 3 B m (rowCells ys)) (hn : n ≤ 100000000) :
    Calls Tryz.prog 34 #[.slice A n c, .slice B m d] w fun e w' => e = .returned (.bool (decide (xs = ys))) ∧ Below w.heap.size w w' := by
  by_cases hnm : n = m
  rotate_left
  · have t1 : ((n : Int) != (m : Int)) = true := by simp; omega
    have hr : decide (xs = ys) = false := by
      simp only [decide_eq_false_iff_not]
      intro e
      subst e
      omega
    rw [hr]
    clear hr hx hy hlx hly
    go_enter Tryz.func34, Tryz.ntmps34
    go_wp2
    go_ret
    exact ⟨rfl, Below.refl _ _⟩
  subst hnm
  obtain ⟨R, hR⟩ : ∃ R, decide (xs = ys) = R := ⟨_, rfl⟩
  rw [hR]
  have HR := hide hR
  have HX := hide hx
  have HY := hide hy
  have HLX := hide hlx
  have HLY := hide hly
  clear hR hx hy hlx hly
  go_enter Tryz.func34, Tryz.ntmps34
  go_wp2_with fail
  go_loopw [5] (fun i wr => ∃ k : Nat, k ≤ n ∧ i = .int .i64 k ∧ Hid (∀ j (h1 : j < xs.length) (h2 : j < ys.length), j < k → xs[j] = ys[j]) ∧ Hid (Below w.heap.size w wr)) (fun i _ => n - (intOf i).toNat)
  case atStart => exact ⟨0, Nat.zero_le _, rfl, hide (fun j _ _ h => by omega), hide (Below.refl _ _)⟩
  case round =>
    obtain ⟨k, hk, rfl, HE, HB⟩ := hrel
    by_cases hlt : k < n
    rotate_left
    · have hke : n = k := by omega
      subst hke
      have hr : R = true := by
        rw [← HR.out]
        simp only [decide_eq_true_eq]
        have h1 := HLX.out
        have h2 := HLY.out
        exact List.ext_getElem (by omega) fun j hj hj2 => HE.out j hj hj2 (by omega)
      go_wp2
      go_ret
      exact ⟨ret_bool hr.symm, HB.out⟩
    obtain ⟨b, o, rfl, c0, c1, c2⟩ := Row.cells (l := xs) (by rw [HLX.out]; exact HX.out.below HB.out) k (by rw [HLX.out]; exact hlt)
    obtain ⟨b', o', rfl, d0, d1, d2⟩ := Row.cells (l := ys) (by rw [HLY.out]; exact HY.out.below HB.out) k (by rw [HLY.out]; exact hlt)
    have h1 : k < xs.length := by have := HLX.out; omega
    have h2 : k < ys.length := by have := HLY.out; omega
    obtain ⟨x, hx⟩ : ∃ x, xs[k] = x := ⟨_, rfl⟩
    obtain ⟨y, hy⟩ : ∃ y, ys[k] = y := ⟨_, rfl⟩
    rw [hx] at c0 c1 c2
    rw [hy] at d0 d1 d2
    have hki : (k : Int) < (n : Int) := by omega
    by_cases hxy : x = y
    · have HE2 : Hid (∀ j (h1 : j < xs.length) (h2 : j < ys.length), j < k + 1 → xs[j] = ys[j]) := hide fun j h1 h2 h3 => by
        rcases Nat.lt_or_eq_of_le (Nat.le_of_lt_succ h3) with h4 | h4
        · exact HE.out j h1 h2 h4
        subst h4; rw [hx, hy, hxy]
      subst hxy
      clear hx hy HE
      obtain ⟨xk, xn, xz⟩ := x
      dsimp only at c0 c1 c2 d0 d1 d2
      go_wp2_with fail
      go_quiet (fail)
      go_wp2
      go_roundw
      case rel => exact ⟨k + 1, hlt, by go_num, HE2, hide (below_drewN HB.out nq)⟩
      case measure => simp [intOf]; omega
    have hr : R = false := by
      rw [← HR.out]
      simp only [decide_eq_false_iff_not]
      intro e
      subst e
      exact hxy (hx.symm.trans hy)
    clear hx hy
    obtain ⟨xk, xn, xz⟩ := x
    obtain ⟨yk, yn, yz⟩ := y
    dsimp only at c0 c1 c2 d0 d1 d2
    by_cases hk1 : xk = yk
    rotate_left
    · clear hxy
      go_wp2_with fail
      go_quiet (fail)
      go_wp2
      go_ret
      exact ⟨ret_bool hr.symm, below_drewN HB.out nq⟩
    subst hk1
    by_cases hn1 : xn = yn
    · subst hn1
      have hz : (xz.toList == yz.toList) = false := by
        rw [beq_eq_false_iff_ne]
        intro h
        rw [ByteArray.toList_eq, ByteArray.toList_eq] at h
        have := bytes_inj h
        subst this
        exact hxy rfl
      clear hxy
      go_wp2_with fail
      go_quiet (fail)
      go_wp2
      go_ret
      exact ⟨ret_bool hr.symm, below_drewN HB.out nq⟩
    clear hxy
    go_wp2_with fail
    go_quiet (fail)
    go_wp2
    go_ret
    exact ⟨ret_bool hr.symm, below_drewN HB.out nq⟩
def RowsR (w : World) (A : Option Addr) (n : Nat) (R : List (List V)) : Prop := ∃ sl : List Value, Rd w 1 A n sl ∧ R.length = n ∧ ∀ (j : Nat) (r : List V), R[j]? = some r → ∃ Aj cj, sl[j]? = some (.slice Aj r.length cj) ∧ Rd w 3 Aj r.length (rowCells r) ∧ r.length ≤ 100000000
theorem RowsR.below {w w' : World} {A : Option Addr} {n : Nat} {R : List (List V)} (h : RowsR w A n R) (hb : Below w.heap.size w w') : RowsR w' A n R := by
  obtain ⟨sl, h1, h2, h3⟩ := h
  exact ⟨sl, h1.below hb, h2, fun j r hj => by obtain ⟨Aj, cj, h4, h5, h6⟩ := h3 j r hj; exact ⟨Aj, cj, h4, h5.below hb, h6⟩⟩
theorem RowsR.at_ {w : World} {A : Option Addr} {n : Nat} {R : List (List V)} (h : RowsR w A n R) (j : Nat) (hj : j < n) (hR : j < R.length) : ∃ b o Aj cj, A = some ⟨b, o, none⟩ ∧ C w b (o + j) (.slice Aj R[j].length cj) ∧ Rd w 3 Aj R[j].length (rowCells R[j]) ∧ R[j].length ≤ 100000000 := by
  obtain ⟨sl, h1, h2, h3⟩ := h
  obtain ⟨Aj, cj, h4, h5, h6⟩ := h3 j R[j] (List.getElem?_eq_getElem hR)
  have hsl : sl.length = n * 1 := h1.1
  obtain ⟨b, o, hA, hc⟩ := h1.some_ (by omega)
  exact ⟨b, o, Aj, cj, hA, (hc j (by omega)).trans h4, h5, h6⟩
theorem RowsR.len {w : World} {A : Option Addr} {n : Nat} {R : List (List V)} (h : RowsR w A n R) : R.length = n := by
  obtain ⟨_, _, h2, _⟩ := h
  exact h2
set_option maxHeartbeats 1600000 in
set_option maxRecDepth 100000 in
theorem samerows_any (A B : Option Addr) (n c m d : Nat) (X Y : List (List V)) (w : World) (hX : RowsR w A n X) (hY : RowsR w B m Y) (hn : n ≤ 100000000) :
    Calls Tryz.prog 21 #[.slice A n c, .slice B m d] w fun e w' => e = .returned (.bool (decide (X = Y))) ∧ Below w.heap.size w w' := by
  have hlx := hX.len
  have hly := hY.len
  by_cases hnm : n = m
  rotate_left
  · have t1 : ((n : Int) != (m : Int)) = true := by simp; omega
    have hr : decide (X = Y) = false := by
      simp only [decide_eq_false_iff_not]
      intro e
      subst e
      omega
    rw [hr]
    clear hr hX hY hlx hly
    go_enter Tryz.func21, Tryz.ntmps21
    go_wp2
    go_ret
    exact ⟨rfl, Below.refl _ _⟩
  subst hnm
  obtain ⟨Q, hQ⟩ : ∃ Q, decide (X = Y) = Q := ⟨_, rfl⟩
  rw [hQ]
  have HQ := hide hQ
  have HX := hide hX
  have HY := hide hY
  have HLX := hide hlx
  have HLY := hide hly
  clear hQ hX hY hlx hly
  go_enter Tryz.func21, Tryz.ntmps21
  go_wp2_with fail
  go_loopw [5] (fun i wr => ∃ k : Nat, k ≤ n ∧ i = .int .i64 k ∧ Hid (∀ j (h1 : j < X.length) (h2 : j < Y.length), j < k → X[j] = Y[j]) ∧ Hid (Below w.heap.size w wr)) (fun i _ => n - (intOf i).toNat)
  case atStart => exact ⟨0, Nat.zero_le _, rfl, hide (fun j _ _ h => by omega), hide (Below.refl _ _)⟩
  case round =>
    obtain ⟨k, hk, rfl, HE, HB⟩ := hrel
    by_cases hlt : k < n
    rotate_left
    · have hke : n = k := by omega
      subst hke
      have hr : Q = true := by
        rw [← HQ.out]
        simp only [decide_eq_true_eq]
        have h1 := HLX.out
        have h2 := HLY.out
        exact List.ext_getElem (by omega) fun j hj hj2 => HE.out j hj hj2 (by omega)
      go_wp2
      go_ret
      exact ⟨ret_bool hr.symm, HB.out⟩
    have h1 : k < X.length := by have := HLX.out; omega
    have h2 : k < Y.length := by have := HLY.out; omega
    obtain ⟨b, o, Aj, cj, rfl, c0, hrd, hle⟩ := (HX.out.below HB.out).at_ k hlt h1
    obtain ⟨b', o', Bj, dj, rfl, d0, hrd', _⟩ := (HY.out.below HB.out).at_ k hlt h2
    have hki : (k : Int) < (n : Int) := by omega
    obtain ⟨S, hS⟩ : ∃ S, decide (X[k] = Y[k]) = S := ⟨_, rfl⟩
    have hcon : ∀ W, Below wr.heap.size wr W → Calls Tryz.prog 34 #[.slice Aj X[k].length cj, .slice Bj Y[k].length dj] W fun e w' => e = .returned (.bool S) ∧ Below W.heap.size W w' := fun W hW => by
      rw [← hS]
      exact same_any Aj Bj X[k].length cj Y[k].length dj X[k] Y[k] W rfl rfl (hrd.below hW) (hrd'.below hW) hle
    have HS := hide hS
    obtain ⟨q, hq⟩ : ∃ q, X[k].length = q := ⟨_, rfl⟩
    obtain ⟨q', hq'⟩ : ∃ q, Y[k].length = q := ⟨_, rfl⟩
    rw [hq] at c0
    rw [hq'] at d0
    rw [hq, hq'] at hcon
    have Hcon := hide hcon
    clear hcon hS hrd hrd' hle hq hq'
    go_wp2_with fail
    go_region_law (first
      | (refine step_call (f := 34) (by rfl) (by rfl) (by rfl) (by simp [go_sem]) (Hcon.out _ (below_drewN (Below.refl _ _) _)) ?_; rintro e w1 ⟨rfl, hb1⟩; refine ⟨_, rfl, ?_⟩)
      | fail)
    all_goals
      cases S with
      | true =>
        have h1 : X[k] = Y[k] := by have := HS.out; rwa [decide_eq_true_eq] at this
        have HE2 : Hid (∀ j (h1 : j < X.length) (h2 : j < Y.length), j < k + 1 → X[j] = Y[j]) := hide fun j hj hj2 h3 => by
          rcases Nat.lt_or_eq_of_le (Nat.le_of_lt_succ h3) with h4 | h4
          · exact HE.out j hj hj2 h4
          subst h4; exact h1
        clear h1
        go_wp2_with fail
        go_roundw
        case rel => exact ⟨k + 1, hlt, by go_num, HE2, hide (below_then HB.out HB.out.size (below_chain (below_drewN (Below.refl _ wr) 1) hb1))⟩
        case measure => simp [intOf]; omega
      | false =>
        have h1 : X[k] ≠ Y[k] := by have := HS.out; rwa [decide_eq_false_iff_not] at this
        have hQf : Q = false := by
          rw [← HQ.out, decide_eq_false_iff_not]
          intro he
          subst he
          exact h1 rfl
        clear h1
        go_wp2_with fail
        go_ret
        exact ⟨by first | rfl | (rw [hQf]; rfl), below_then HB.out HB.out.size (below_chain (below_drewN (Below.refl _ wr) 1) hb1)⟩
end Go.Proofs.YtekokogmnhlchaaGreatDoor
