import Derived.Test.YtekokogmnhlchaaGreatDoorE5
import Derived.Test.YtekokogmnhlchaaGreatDoorA7
import Derived.Test.YtekokogmnhlchaaGreatDoorE4
import Derived.Deep.RegionHeld3
set_option linter.unusedSimpArgs false
set_option linter.unusedVariables false
set_option linter.unusedSectionVars false
namespace Go.Proofs.YtekokogmnhlchaaGreatDoor
open Go.RowKit
theorem tabT : SlT Tryz.prog 71 79 4 88 := ⟨by
  obtain ⟨i, hi, hz0, hz1, hz2⟩ := info_parts (P := Tryz.prog) (e := 79) (z := .agg #[.string ⟨#[]⟩, .slice none 0 0, .slice none 0 0, .slice none 0 0]) (size := 4) (bytes := 88) (by kernel_rfl)
  exact ⟨i, _, Tryz.underlying71, hi, hz0, hz1, hz2, rfl, by omega⟩⟩
theorem rowT15 : SlT Tryz.prog 26 33 1 24 := ⟨by
  obtain ⟨i, hi, hz0, hz1, hz2⟩ := info_parts (P := Tryz.prog) (e := 33) (z := .slice none 0 0) (size := 1) (bytes := 24) (by kernel_rfl)
  exact ⟨i, _, Tryz.underlying26, hi, hz0, hz1, hz2, rfl, by omega⟩⟩
theorem own_bnd' {w : World} {base : Nat} {e : TypeId} {k n : Nat} {v : Value} {xs : List Value} (h : w.ownsRow base e k v n xs) (g : Nat) (hg : v.ownBlock = some g) : base ≤ g ∧ g < w.heap.size := by
  rcases h.2 with ⟨h0, _⟩ | ⟨g', cap, cur, h0, h1, h2, _⟩
  · rw [h0] at hg; cases hg
  rw [h0] at hg
  injection hg with hg
  subst hg
  exact ⟨h1, (Array.getElem?_eq_some_iff.1 h2).1⟩
theorem own_diff' {w : World} {N N' e e' k k' m m' : Nat} {v u : Value} {xs ys : List Value} (h : w.ownsRow N e k v m xs) (h' : w.ownsRow N' e' k' u m' ys) (hne : e ≠ e') : v.ownBlock = none ∨ v.ownBlock ≠ u.ownBlock := by
  rcases h.2 with ⟨h0, _⟩ | ⟨g, cap, cur, h0, h1, h2, _⟩
  · rw [h0]; exact .inl rfl
  right
  intro he
  rcases h'.2 with ⟨k0, _⟩ | ⟨g', cap', cur', k0, k1, k2, _⟩
  · rw [h0, k0] at he; cases he
  rw [h0, k0] at he
  have hg : g = g' := by simpa [Value.ownBlock] using he
  subst hg
  rw [h2] at k2
  injection k2 with k2
  injection k2 with _ k3 _
  exact hne k3
theorem Els.of_get {α : Type} {P : α → List Value → Prop} {k : Nat} : ∀ {L : List α} {xs : List Value}, xs.length = L.length * k → (∀ i (h : i < L.length), ∃ v, v.length = k ∧ P L[i] v ∧ ∀ j, j < k → xs[i * k + j]? = v[j]?) → Els P k L xs
  | [], xs, hl, _ => by
    have : xs = [] := List.eq_nil_of_length_eq_zero (by simpa using hl)
    subst this
    exact Els.nil P k
  | x :: L, xs, hl, h => by
    have hl' : xs.length = L.length * k + k := by rw [hl, List.length_cons, Nat.add_mul, Nat.one_mul]
    obtain ⟨v, hv, hp, hg⟩ := h 0 (by simp)
    have h1 : xs.take k = v := by
      apply List.ext_getElem?
      intro j
      by_cases hj : j < k
      · rw [List.getElem?_take, if_pos hj, ← hg j hj, Nat.zero_mul, Nat.zero_add]
      rw [List.getElem?_take, if_neg hj, List.getElem?_eq_none (by omega)]
    have h2 : Els P k L (xs.drop k) := Els.of_get (by rw [List.length_drop]; omega) fun i hi => by
      obtain ⟨u, hu, hpu, hgu⟩ := h (i + 1) (by simpa using hi)
      refine ⟨u, hu, by simpa using hpu, fun j hj => ?_⟩
      rw [List.getElem?_drop, ← hgu j hj, Nat.add_mul, Nat.one_mul]
      congr 1; omega
    have h3 := (Els.one (P := P) hv (by simpa using hp)).append h2
    rw [← h1, List.take_append_drop] at h3
    exact h3
structure TabC (F : Nat → Prop) (w0 w : World) (M : Nat) (T : Tb) (x0 x1 x2 x3 : Option Value) : Prop where
  ex : ∃ CA cc XA xc RA rc sl, x0 = some (.string T.s.name) ∧ x1 = some (.slice CA T.s.cols.length cc) ∧ x2 = some (.slice XA T.s.ixs.length xc) ∧ x3 = some (.slice RA T.rows.length rc) ∧ T.s.cols.length ≤ cc ∧ T.s.ixs.length ≤ xc ∧ T.rows.length ≤ rc ∧
    (Rd w0 3 CA T.s.cols.length (T.s.cols.flatMap Col.cells) ∧ NF F CA T.s.cols.length) ∧ (Rd w0 2 XA T.s.ixs.length (T.s.ixs.flatMap Ix.cells) ∧ NF F XA T.s.ixs.length) ∧ w.ownsRow M 33 1 (.slice RA T.rows.length rc) T.rows.length sl ∧
    ∀ (q : Nat) (r : List V), T.rows[q]? = some r → ∃ Aq cq, sl[q]? = some (.slice Aq r.length cq) ∧ (Rd w0 3 Aq r.length (rowCells r) ∧ NF F Aq r.length) ∧ r.length ≤ 100000000
structure CopR (F : Nat → Prop) (M : Nat) (w0 w : World) (v : Value) (n : Nat) (W : List Tb) (xs : List Value) : Prop where
  own : w.ownsRow M 79 4 v n xs
  tab : ∀ (j : Nat) (T : Tb), j < n → W[j]? = some T → TabC F w0 w M T xs[j * 4]? xs[j * 4 + 1]? xs[j * 4 + 2]? xs[j * 4 + 3]?
  dis : ∀ (j k : Nat) (u x : Value), j < k → xs[j * 4 + 3]? = some u → xs[k * 4 + 3]? = some x → x.ownBlock = none ∨ x.ownBlock ≠ u.ownBlock
section
variable {F : Nat → Prop} {M n : Nat} {w0 w w' : World} {v : Value} {W : List Tb} {xs : List Value}
theorem CopR.nil (F : Nat → Prop) (M : Nat) (w0 w : World) (W : List Tb) : CopR F M w0 w (.slice none 0 0) 0 W [] := ⟨World.ownsRow_nil _ _ _ _, fun j T h => by omega, fun j k u x _ h => by simp at h⟩
theorem TabC.kept {T : Tb} {x0 x1 x2 x3 : Option Value} (h : TabC F w0 w M T x0 x1 x2 x3) (hk : ∀ RA rc sl, x3 = some (.slice RA T.rows.length rc) → w.ownsRow M 33 1 (.slice RA T.rows.length rc) T.rows.length sl → w'.ownsRow M 33 1 (.slice RA T.rows.length rc) T.rows.length sl) : TabC F w0 w' M T x0 x1 x2 x3 := by
  obtain ⟨CA, cc, XA, xc, RA, rc, sl, e0, e1, e2, e3, k1, k2, k3, h1, h2, h3, h4⟩ := h.ex
  exact ⟨CA, cc, XA, xc, RA, rc, sl, e0, e1, e2, e3, k1, k2, k3, h1, h2, hk RA rc sl e3 h3, h4⟩
theorem CopR.below (h : CopR F M w0 w v n W xs) (hb : Below w.heap.size w w') : CopR F M w0 w' v n W xs :=
  ⟨own_below h.own hb, fun j T hj hT => (h.tab j T hj hT).kept fun _ _ _ _ ho => own_below ho hb, h.dis⟩
theorem CopR.set (h : CopR F M w0 w v n W xs) {a : Addr} (ha : a.block < M) (u : Value) : CopR F M w0 (w.setCell a u) v n W xs :=
  ⟨own_set h.own ha u, fun j T hj hT => (h.tab j T hj hT).kept fun _ _ _ _ ho => own_set ho ha u, h.dis⟩
theorem CopR.push {v' : Value} {T : Tb} {CA XA RA : Option Addr} {cc xc rc : Nat} {sl : List Value} (h : CopR F M w0 w v n W xs) (hT : W[n]? = some T)
    (hown : w'.ownsRow M 79 4 v' (n + 1) (xs ++ [.string T.s.name, .slice CA T.s.cols.length cc, .slice XA T.s.ixs.length xc, .slice RA T.rows.length rc])) (hg : w.grownBy w' v.ownBlock)
    (k1 : T.s.cols.length ≤ cc) (k2 : T.s.ixs.length ≤ xc) (h1 : Rd w0 3 CA T.s.cols.length (T.s.cols.flatMap Col.cells) ∧ NF F CA T.s.cols.length) (h2 : Rd w0 2 XA T.s.ixs.length (T.s.ixs.flatMap Ix.cells) ∧ NF F XA T.s.ixs.length)
    (h3 : w.ownsRow M 33 1 (.slice RA T.rows.length rc) T.rows.length sl) (h4 : ∀ (q : Nat) (r : List V), T.rows[q]? = some r → ∃ Aq cq, sl[q]? = some (.slice Aq r.length cq) ∧ (Rd w0 3 Aq r.length (rowCells r) ∧ NF F Aq r.length) ∧ r.length ≤ 100000000)
    (hnew : ∀ (j : Nat) (u : Value), xs[j * 4 + 3]? = some u → (Value.slice RA T.rows.length rc).ownBlock = none ∨ (Value.slice RA T.rows.length rc).ownBlock ≠ u.ownBlock) :
    CopR F M w0 w' v' (n + 1) W (xs ++ [.string T.s.name, .slice CA T.s.cols.length cc, .slice XA T.s.ixs.length xc, .slice RA T.rows.length rc]) := by
  have hl : xs.length = n * 4 := own_len h.own
  have k3 : T.rows.length ≤ rc := by
    obtain ⟨_, _, e, h5, _⟩ := own_form h3
    injection e with _ _ e
    omega
  refine ⟨hown, fun j U hj hU => ?_, fun j k u x hjk hu hx => ?_⟩
  · by_cases hjn : j < n
    · have q : ∀ i, i < 4 → (xs ++ [Value.string T.s.name, .slice CA T.s.cols.length cc, .slice XA T.s.ixs.length xc, .slice RA T.rows.length rc])[j * 4 + i]? = xs[j * 4 + i]? := fun i hi => List.getElem?_append_left (by omega)
      have q0 := q 0 (by omega)
      rw [Nat.add_zero] at q0
      rw [q0, q 1 (by omega), q 2 (by omega), q 3 (by omega)]
      exact (h.tab j U hjn hU).kept fun _ _ _ _ ho => ho.kept hg (own_diff' ho h.own (by decide))
    have : j = n := by omega
    subst this
    rw [hT] at hU
    obtain rfl := Option.some.inj hU
    have q : ∀ i, i < 4 → (xs ++ [Value.string T.s.name, .slice CA T.s.cols.length cc, .slice XA T.s.ixs.length xc, .slice RA T.rows.length rc])[j * 4 + i]? = [Value.string T.s.name, .slice CA T.s.cols.length cc, .slice XA T.s.ixs.length xc, .slice RA T.rows.length rc][i]? := fun i hi => by
      rw [List.getElem?_append_right (by omega), hl]; congr 1; omega
    have q0 := q 0 (by omega)
    rw [Nat.add_zero] at q0
    rw [q0, q 1 (by omega), q 2 (by omega), q 3 (by omega)]
    exact ⟨CA, cc, XA, xc, RA, rc, sl, rfl, rfl, rfl, rfl, k1, k2, k3, h1, h2, h3.kept hg (own_diff' h3 h.own (by decide)), h4⟩
  have hk : k * 4 + 3 < n * 4 + 4 := by
    have := (List.getElem?_eq_some_iff.1 hx).1
    rw [List.length_append, hl] at this
    simpa using this
  rw [List.getElem?_append_left (by omega)] at hu
  by_cases hkn : k < n
  · rw [List.getElem?_append_left (by omega)] at hx
    exact h.dis j k u x hjk hu hx
  have : k = n := by omega
  subst this
  rw [List.getElem?_append_right (by omega), hl, show k * 4 + 3 - k * 4 = 3 by omega] at hx
  simp only [List.getElem?_cons_succ, List.getElem?_cons_zero, Option.some.injEq] at hx
  subst hx
  exact hnew j u hu
theorem own_nf {e k c : Nat} {A : Option Addr} {ys : List Value} (h : w.ownsRow M e k (.slice A n c) n ys) (hF : ∀ b, F b → b < M) : NF F A n := by
  rcases h.2 with ⟨h0, h1⟩ | ⟨g, cap, cur, h0, h1, _⟩
  · exact .inl h1
  injection h0 with h0
  exact .inr ⟨g, 0, h0, fun h => by have := hF g h; omega⟩
theorem DBR.of_cells {A : Option Addr} (hl : W.length = n) (hr : Rd w 4 A n xs ∧ NF F A n) (h : ∀ (j : Nat) (T : Tb), W[j]? = some T → ∃ CA cc XA xc RA rc, xs[j * 4]? = some (.string T.s.name) ∧ xs[j * 4 + 1]? = some (.slice CA T.s.cols.length cc) ∧ xs[j * 4 + 2]? = some (.slice XA T.s.ixs.length xc) ∧ xs[j * 4 + 3]? = some (.slice RA T.rows.length rc) ∧ T.s.cols.length ≤ cc ∧ T.s.ixs.length ≤ xc ∧ T.rows.length ≤ rc ∧
    (Rd w 3 CA T.s.cols.length (T.s.cols.flatMap Col.cells) ∧ NF F CA T.s.cols.length) ∧ (Rd w 2 XA T.s.ixs.length (T.s.ixs.flatMap Ix.cells) ∧ NF F XA T.s.ixs.length) ∧ RowsF F w RA T.rows.length T.rows) : DBR F w A n W := by
  refine ⟨hl, xs, hr, Els.of_get (by rw [hr.1.1, hl]) fun i hi => ?_⟩
  obtain ⟨CA, cc, XA, xc, RA, rc, e0, e1, e2, e3, k1, k2, k3, h1, h2, h3⟩ := h i W[i] (List.getElem?_eq_getElem hi)
  refine ⟨_, rfl, ⟨CA, cc, XA, xc, RA, rc, rfl, k1, k2, k3, h1, h2, h3⟩, fun j hj => ?_⟩
  rcases j with _ | _ | _ | _ | j
  · exact e0
  · exact e1
  · exact e2
  · exact e3
  omega
theorem TabC.rows {T : Tb} {x0 x1 x2 x3 : Option Value} (h : TabC F w0 w M T x0 x1 x2 x3) (hb : Below w0.heap.size w0 w) (hF : ∀ b, F b → b < M) : ∃ CA cc XA xc RA rc, x0 = some (.string T.s.name) ∧ x1 = some (.slice CA T.s.cols.length cc) ∧ x2 = some (.slice XA T.s.ixs.length xc) ∧ x3 = some (.slice RA T.rows.length rc) ∧ T.s.cols.length ≤ cc ∧ T.s.ixs.length ≤ xc ∧ T.rows.length ≤ rc ∧
    (Rd w 3 CA T.s.cols.length (T.s.cols.flatMap Col.cells) ∧ NF F CA T.s.cols.length) ∧ (Rd w 2 XA T.s.ixs.length (T.s.ixs.flatMap Ix.cells) ∧ NF F XA T.s.ixs.length) ∧ RowsF F w RA T.rows.length T.rows := by
  obtain ⟨CA, cc, XA, xc, RA, rc, sl, e0, e1, e2, e3, k1, k2, k3, h1, h2, h3, h4⟩ := h.ex
  exact ⟨CA, cc, XA, xc, RA, rc, e0, e1, e2, e3, k1, k2, k3, ⟨h1.1.below hb, h1.2⟩, ⟨h2.1.below hb, h2.2⟩, sl, ⟨Rd.of_own h3, own_nf h3 hF⟩, rfl, fun q r hr => by
    obtain ⟨Aq, cq, g1, g2, g3⟩ := h4 q r hr
    exact ⟨Aq, cq, g1, ⟨g2.1.below hb, g2.2⟩, g3⟩⟩
end
theorem CopR.mono {F : Nat → Prop} {M M' n : Nat} {w0 w : World} {v : Value} {W : List Tb} {xs : List Value} (h : CopR F M w0 w v n W xs) (hM : M' ≤ M) : CopR F M' w0 w v n W xs :=
  ⟨own_mono h.own hM, fun j T hj hT => by
    obtain ⟨CA, cc, XA, xc, RA, rc, sl, e0, e1, e2, e3, k1, k2, k3, h1, h2, h3, h4⟩ := (h.tab j T hj hT).ex
    exact ⟨CA, cc, XA, xc, RA, rc, sl, e0, e1, e2, e3, k1, k2, k3, h1, h2, own_mono h3 hM, h4⟩, h.dis⟩
theorem Blk.belowM {M : Nat} {w w' : World} {b : Nat} {cs : Array Value} {t : TypeId} (h : Blk w b cs t) (hb : Below M w w') (hM : b < M) : Blk w' b cs t := (hb.block b hM).trans h
theorem slices_one {F : Nat → Prop} {R : List (List V)} {sl : List Value} {w : World} (h1 : sl.length = R.length) (h : ∀ (j : Nat) (r : List V), R[j]? = some r → ∃ Aj cj, sl[j]? = some (.slice Aj r.length cj) ∧ (Rd w 3 Aj r.length (rowCells r) ∧ NF F Aj r.length) ∧ r.length ≤ 100000000) : ∀ u ∈ sl, u.oneCell' = true := by
  intro u hu
  obtain ⟨j, hj, rfl⟩ := List.getElem_of_mem hu
  obtain ⟨Aj, cj, e, _⟩ := h j R[j] (List.getElem?_eq_getElem (by omega))
  rw [List.getElem?_eq_getElem hj] at e
  rw [Option.some.inj e]
  rfl
def CopOut (F : Nat → Prop) (w0 w : World) (n : Nat) (W : List Tb) (e : Ending) (w' : World) : Prop := ∃ A' c' xs, e = .returned (.agg #[.slice A' n c']) ∧ CopR F w.heap.size w0 w' (.slice A' n c') n W xs ∧ Below w.heap.size w w'
set_option maxHeartbeats 6400000 in
set_option maxRecDepth 1000000 in
theorem copy15_any {F : Nat → Prop} (A : Option Addr) (n c : Nat) (W : List Tb) (w0 w : World) (hb0 : Below w0.heap.size w0 w) (hW : DBR F w0 A n W) (hn : n ≤ 1000) (hr : ∀ U ∈ W, U.rows.length ≤ 64) :
    Calls Tryz.prog 131 #[.agg #[.slice A n c]] w (CopOut F w0 w n W) := by
  have HB0 := hide hb0
  clear hb0
  have hb1 := (Below.refl w.heap.size w).alloc (Nat.le_refl _) (.cells #[.slice A n c] 73)
  have hb2 := hb1.alloc hb1.size (.cells #[.slice none 0 0] 73)
  have hb3 := hb2.alloc hb2.size (.cells #[.slice none 0 0] 73)
  have n1 := ((Blk.new w #[.slice A n c] 73).alloc (.cells #[.slice none 0 0] 73)).alloc (.cells #[.slice none 0 0] 73)
  have n2 := (Blk.new (w.alloc (.cells #[.slice A n c] 73)) #[.slice none 0 0] 73).alloc (.cells #[.slice none 0 0] 73)
  have n3 := Blk.new ((w.alloc (.cells #[.slice A n c] 73)).alloc (.cells #[.slice none 0 0] 73)) #[.slice none 0 0] 73
  have e2 : (w.alloc (.cells #[.slice A n c] 73)).heap.size = w.heap.size + 1 := by simp
  have e3 : ((w.alloc (.cells #[.slice A n c] 73)).alloc (.cells #[.slice none 0 0] 73)).heap.size = w.heap.size + 1 + 1 := by simp
  have e4 : (((w.alloc (.cells #[.slice A n c] 73)).alloc (.cells #[.slice none 0 0] 73)).alloc (.cells #[.slice none 0 0] 73)).heap.size = w.heap.size + 1 + 1 + 1 := by simp
  rw [e2] at n2
  rw [e3] at n3
  obtain ⟨W3, hW3⟩ : ∃ W3, ((w.alloc (.cells #[.slice A n c] 73)).alloc (.cells #[.slice none 0 0] 73)).alloc (.cells #[.slice none 0 0] 73) = W3 := ⟨_, rfl⟩
  rw [hW3] at hb3 n1 n2 n3 e4
  have HB := hide hb3
  have N1 := hide n1
  have N2 := hide n2
  have N3 := hide n3
  have HW := hide hW
  have Hl := hide hW.1
  have E4 := hide e4
  have Hr := hide hr
  clear hb1 hb2 hb3 n1 n2 n3 e2 e3 e4 hW hr
  go_enter Tryz.func131, Tryz.ntmps131
  go_wp2_with fail
  clear hW3
  go_loopw [4] (fun iv wr => ∃ i : Nat, i ≤ n ∧ iv = .int .i64 i ∧ Hid (Below w.heap.size w wr) ∧ Hid (w.heap.size + 1 + 1 + 1 ≤ wr.heap.size) ∧ Hid (Blk wr w.heap.size #[.slice A n c] 73) ∧ Hid (Blk wr (w.heap.size + 1) #[.slice none 0 0] 73) ∧ Hid (∃ A' c' xs, Blk wr (w.heap.size + 1 + 1) #[.slice A' i c'] 73 ∧ CopR F (w.heap.size + 1 + 1 + 1) w0 wr (.slice A' i c') i W xs)) (fun iv _ => n - (intOf iv).toNat)
  case atStart => exact ⟨0, Nat.zero_le _, rfl, HB, hide (Nat.le_of_eq E4.out.symm), N1, N2, hide ⟨none, 0, [], N3.out, CopR.nil _ _ _ _ _⟩⟩
  case round =>
    clear HB N1 N2 N3 E4
    obtain ⟨i, hi, rfl, HB, HM, N1, N2, HC⟩ := hrel
    have c1 := N1.out.c 0 (v := .slice A n c) rfl
    by_cases hlt : i < n
    rotate_left
    · have hie : i = n := by omega
      subst hie
      obtain ⟨A', c', xs, h3, hcop⟩ := HC.out
      have hii : ¬ (i : Int) < (i : Int) := by omega
      have c3 := h3.c 0 (v := .slice A' i c') rfl
      have f2 := N2.out.fr 0
      have d2 := N2.out.c 0 (v := .slice none 0 0) rfl
      have hB7 := HB.out.setCell (p := ⟨w.heap.size + 1, 0, none⟩) (by show w.heap.size ≤ w.heap.size + 1; omega) (.slice A' i c')
      have hC7 := (hcop.set (a := ⟨w.heap.size + 1, 0, none⟩) (by show w.heap.size + 1 < w.heap.size + 1 + 1 + 1; omega) (.slice A' i c')).mono (M' := w.heap.size) (by omega)
      have r2 := (N2.out.set 0 (.slice A' i c')).c 0 (v := .slice A' i c') rfl
      have HI := hide (And.intro hB7 hC7)
      clear hB7 hC7 hcop h3 HC
      go_wp2_with fail
      refine bodyPost_ret (v := .agg #[.slice A' i c']) (by simp [results, Tryz.results131, go_sem, r2]) rfl ?_
      exact ⟨A', c', _, rfl, HI.out.2, HI.out.1⟩
    have hiW : i < W.length := by rw [Hl.out]; exact hlt
    obtain ⟨A', c', xs, h3, hcop⟩ := HC.out
    obtain ⟨b, o, CA, cc, XA, xc, RA, rc, rfl, x0, x1, x2, x3, k1, k2, k3, r1, r2, r3⟩ := HW.out.atF i hlt hiW
    have hr64 := Hr.out W[i] (List.getElem_mem hiW)
    have hTi : W[i]? = some W[i] := List.getElem?_eq_getElem hiW
    obtain ⟨T, hT⟩ : ∃ T, W[i] = T := ⟨_, rfl⟩
    rw [hT] at x0 x1 x2 x3 k1 k2 k3 r1 r2 r3 hr64 hTi
    have hbw : b < w.heap.size := Nat.lt_of_lt_of_le x0.lt HB0.out.size
    have x0 := (x0.below HB0.out).below HB.out
    have x1 := (x1.below HB0.out).below HB.out
    have x2 := (x2.below HB0.out).below HB.out
    have x3 := (x3.below HB0.out).below HB.out
    obtain ⟨sl, s1, s2, s3⟩ := r3
    have hone := slices_one (by have := s1.1.1; omega) s3
    have c3 := h3.c 0 (v := .slice A' i c') rfl
    obtain ⟨rn, hrn⟩ : ∃ rn, T.rows.length = rn := ⟨_, rfl⟩
    obtain ⟨cn, hcn⟩ : ∃ cn, T.s.cols.length = cn := ⟨_, rfl⟩
    obtain ⟨xn, hxn⟩ : ∃ xn, T.s.ixs.length = xn := ⟨_, rfl⟩
    obtain ⟨tn, htn⟩ : ∃ tn, T.s.name = tn := ⟨_, rfl⟩
    rw [htn] at x0
    rw [hcn] at x1
    rw [hxn] at x2
    rw [hrn] at x3 s1 hr64
    have S1 := hide ((s1.1.below HB0.out).below HB.out)
    have Hone := hide hone
    have H3 := hide h3
    have HCop := hide hcop
    have hii : (i : Int) < (n : Int) := by omega
    have HPush := hide (And.intro hTi (And.intro k1 (And.intro k2 (And.intro r1 (And.intro r2 s3)))))
    have Hrn := hide hrn
    have Hcn := hide hcn
    have Hxn := hide hxn
    have Htn := hide htn
    have hcap : c' ≤ maxLen ∧ i ≤ c' := by
      obtain ⟨_, _, e, h5, h6, _⟩ := own_form hcop.own
      injection e with _ _ e
      omega
    clear hone h3 hcop hTi k1 k2 k3 r1 r2 s1 s2 s3 hrn hcn hxn htn hT HC hcap
    go_wp2_with fail
    refine wp_region_E 20 (fun w' => w'.cell? ⟨w.heap.size + 1 + 1, 0, none⟩ = some (.slice A' i c') ∧ w'.cell? ⟨w.heap.size, 0, none⟩ = some (.slice (some ⟨b, o, none⟩) n c) ∧ w'.cell? ⟨b, o + i * 4, none⟩ = some (.string tn) ∧ w'.cell? ⟨b, o + i * 4 + 1, none⟩ = some (.slice CA cn cc) ∧ w'.cell? ⟨b, o + i * 4 + 2, none⟩ = some (.slice XA xn xc) ∧ w'.cell? ⟨b, o + i * 4 + 3, none⟩ = some (.slice RA rn rc)) (by kernel_rfl) ?_
    have hH : _ ∧ _ ∧ _ ∧ _ ∧ _ ∧ _ := ⟨c3, c1, x0, x1, x2, x3⟩
    refine wpAnyE_take (i := 0) (v := ?_) (by kernel_rfl) rfl (by kernel_rfl) (by kernel_rfl) (by kernel_rfl) (fun _ _ _ h => h) (by rfl) hH ?_ ?_
    rotate_left
    · (rintro w' ⟨s0, s1, s2, s3, s4, s5⟩; go_simp; try with_reducible rfl)
    simp only [Act.put, List.setIfInBounds_toArray, List.set_cons_zero, List.set_cons_succ, List.getElem_toArray, List.getElem_cons_zero, List.getElem_cons_succ]
    refine wpAnyE_take (i := 1) (v := ?_) (by kernel_rfl) rfl (by kernel_rfl) (by kernel_rfl) (by kernel_rfl) (fun _ _ _ h => h) (by rfl) hH ?_ ?_
    rotate_left
    · (rintro w' ⟨s0, s1, s2, s3, s4, s5⟩; go_simp; try with_reducible rfl)
    simp only [Act.put, List.setIfInBounds_toArray, List.set_cons_zero, List.set_cons_succ, List.getElem_toArray, List.getElem_cons_zero, List.getElem_cons_succ]
    refine wpAnyE_take (i := 2) (v := ?_) (by kernel_rfl) rfl (by kernel_rfl) (by kernel_rfl) (by kernel_rfl) (fun _ _ _ h => h) (by rfl) hH ?_ ?_
    rotate_left
    · (rintro w' ⟨s0, s1, s2, s3, s4, s5⟩; go_simp; try with_reducible rfl)
    simp only [Act.put, List.setIfInBounds_toArray, List.set_cons_zero, List.set_cons_succ, List.getElem_toArray, List.getElem_cons_zero, List.getElem_cons_succ]
    refine wpAnyE_take (i := 3) (v := ?_) (by kernel_rfl) rfl (by kernel_rfl) (by kernel_rfl) (by kernel_rfl) (fun _ _ _ h => h) (by rfl) hH ?_ ?_
    rotate_left
    · (rintro w' ⟨s0, s1, s2, s3, s4, s5⟩; go_simp; try with_reducible rfl)
    simp only [Act.put, List.setIfInBounds_toArray, List.set_cons_zero, List.set_cons_succ, List.getElem_toArray, List.getElem_cons_zero, List.getElem_cons_succ]
    refine wpAnyE_take (i := 4) (v := ?_) (by kernel_rfl) rfl (by kernel_rfl) (by kernel_rfl) (by kernel_rfl) (fun _ _ _ h => h) (by rfl) hH ?_ ?_
    rotate_left
    · (rintro w' ⟨s0, s1, s2, s3, s4, s5⟩; go_simp; try with_reducible rfl)
    simp only [Act.put, List.setIfInBounds_toArray, List.set_cons_zero, List.set_cons_succ, List.getElem_toArray, List.getElem_cons_zero, List.getElem_cons_succ]
    refine wpAnyE_take (i := 5) (v := ?_) (by kernel_rfl) rfl (by kernel_rfl) (by kernel_rfl) (by kernel_rfl) (fun _ _ _ h => h) (by rfl) hH ?_ ?_
    rotate_left
    · (rintro w' ⟨s0, s1, s2, s3, s4, s5⟩; go_simp; try with_reducible rfl)
    simp only [Act.put, List.setIfInBounds_toArray, List.set_cons_zero, List.set_cons_succ, List.getElem_toArray, List.getElem_cons_zero, List.getElem_cons_succ]
    refine wpAnyE_take (i := 6) (v := ?_) (by kernel_rfl) rfl (by kernel_rfl) (by kernel_rfl) (by kernel_rfl) (fun _ _ _ h => h) (by rfl) hH ?_ ?_
    rotate_left
    · (rintro w' ⟨s0, s1, s2, s3, s4, s5⟩; go_simp; try with_reducible rfl)
    simp only [Act.put, List.setIfInBounds_toArray, List.set_cons_zero, List.set_cons_succ, List.getElem_toArray, List.getElem_cons_zero, List.getElem_cons_succ]
    refine wpAnyE_take (i := 7) (v := ?_) (by kernel_rfl) rfl (by kernel_rfl) (by kernel_rfl) (by kernel_rfl) (fun _ _ _ h => h) (by rfl) hH ?_ ?_
    rotate_left
    · (rintro w' ⟨s0, s1, s2, s3, s4, s5⟩; go_simp; try with_reducible rfl)
    simp only [Act.put, List.setIfInBounds_toArray, List.set_cons_zero, List.set_cons_succ, List.getElem_toArray, List.getElem_cons_zero, List.getElem_cons_succ]
    refine wpAnyE_take (i := 8) (v := ?_) (by kernel_rfl) rfl (by kernel_rfl) (by kernel_rfl) (by kernel_rfl) (fun _ _ _ h => h) (by rfl) hH ?_ ?_
    rotate_left
    · (rintro w' ⟨s0, s1, s2, s3, s4, s5⟩; go_simp; try with_reducible rfl)
    simp only [Act.put, List.setIfInBounds_toArray, List.set_cons_zero, List.set_cons_succ, List.getElem_toArray, List.getElem_cons_zero, List.getElem_cons_succ]
    refine wpAnyE_take (i := 9) (v := ?_) (by kernel_rfl) rfl (by kernel_rfl) (by kernel_rfl) (by kernel_rfl) (fun _ _ _ h => h) (by rfl) hH ?_ ?_
    rotate_left
    · (rintro w' ⟨s0, s1, s2, s3, s4, s5⟩; go_simp; try with_reducible rfl)
    simp only [Act.put, List.setIfInBounds_toArray, List.set_cons_zero, List.set_cons_succ, List.getElem_toArray, List.getElem_cons_zero, List.getElem_cons_succ]
    refine wpAnyE_take (i := 10) (v := ?_) (by kernel_rfl) rfl (by kernel_rfl) (by kernel_rfl) (by kernel_rfl) (fun _ _ _ h => h) (by rfl) hH ?_ ?_
    rotate_left
    · (rintro w' ⟨s0, s1, s2, s3, s4, s5⟩; go_simp; try with_reducible rfl)
    simp only [Act.put, List.setIfInBounds_toArray, List.set_cons_zero, List.set_cons_succ, List.getElem_toArray, List.getElem_cons_zero, List.getElem_cons_succ]
    refine wpAnyE_take (i := 11) (v := ?_) (by kernel_rfl) rfl (by kernel_rfl) (by kernel_rfl) (by kernel_rfl) (fun _ _ _ h => h) (by rfl) hH ?_ ?_
    rotate_left
    · (rintro w' ⟨s0, s1, s2, s3, s4, s5⟩; go_simp; try with_reducible rfl)
    simp only [Act.put, List.setIfInBounds_toArray, List.set_cons_zero, List.set_cons_succ, List.getElem_toArray, List.getElem_cons_zero, List.getElem_cons_succ]
    refine wpAnyE_take (i := 12) (v := ?_) (by kernel_rfl) rfl (by kernel_rfl) (by kernel_rfl) (by kernel_rfl) (fun _ _ _ h => h) (by rfl) hH ?_ ?_
    rotate_left
    · (rintro w' ⟨s0, s1, s2, s3, s4, s5⟩; go_simp; try with_reducible rfl)
    simp only [Act.put, List.setIfInBounds_toArray, List.set_cons_zero, List.set_cons_succ, List.getElem_toArray, List.getElem_cons_zero, List.getElem_cons_succ]
    refine wpAnyE_take (i := 13) (v := ?_) (by kernel_rfl) rfl (by kernel_rfl) (by kernel_rfl) (by kernel_rfl) (fun _ _ _ h => h) (by rfl) hH ?_ ?_
    rotate_left
    · (rintro w' ⟨s0, s1, s2, s3, s4, s5⟩; go_simp; try with_reducible rfl)
    simp only [Act.put, List.setIfInBounds_toArray, List.set_cons_zero, List.set_cons_succ, List.getElem_toArray, List.getElem_cons_zero, List.getElem_cons_succ]
    refine wpAnyE_take (i := 14) (v := ?_) (by kernel_rfl) rfl (by kernel_rfl) (by kernel_rfl) (by kernel_rfl) (fun _ _ _ h => h) (by rfl) hH ?_ ?_
    rotate_left
    · (rintro w' ⟨s0, s1, s2, s3, s4, s5⟩; go_simp; try with_reducible rfl)
    simp only [Act.put, List.setIfInBounds_toArray, List.set_cons_zero, List.set_cons_succ, List.getElem_toArray, List.getElem_cons_zero, List.getElem_cons_succ]
    refine wpAnyE_one (i := 15) (by kernel_rfl) rfl (by rfl) fun K hK => ?_
    refine oper_app (base := wr.heap.size) (n := 0) (xs := []) rowT15 rfl (World.ownsRow_nil _ _ _ _) rfl S1.out.drew rfl Hone.out (by omega) (by omega) (by simp) ?_
    intro A5 c5 w5 hown5 hb5 hg5 hat5
    have hb5' := undrewd hb5
    have hH : _ ∧ _ ∧ _ ∧ _ ∧ _ ∧ _ := ⟨c3.below hb5', c1.below hb5', x0.below hb5', x1.below hb5', x2.below hb5', x3.below hb5'⟩
    refine hK _ _ (.inr hH) ?_
    clear hK K
    try simp only [Act.put, List.setIfInBounds_toArray, List.set_cons_zero, List.set_cons_succ, List.getElem_toArray, List.getElem_cons_zero, List.getElem_cons_succ]
    rw [Nat.zero_add] at hown5 hat5
    simp only [Nat.zero_add]
    refine wpAnyE_take (i := 16) (v := ?_) (by kernel_rfl) rfl (by kernel_rfl) (by kernel_rfl) (by kernel_rfl) (fun _ _ _ h => h) (by rfl) hH ?_ ?_
    rotate_left
    · (rintro w' ⟨s0, s1, s2, s3, s4, s5⟩; go_simp; try with_reducible rfl)
    simp only [Act.put, List.setIfInBounds_toArray, List.set_cons_zero, List.set_cons_succ, List.getElem_toArray, List.getElem_cons_zero, List.getElem_cons_succ]
    refine wpAnyE_one (i := 17) (by kernel_rfl) rfl (by rfl) fun K hK => ?_
    go_simp
    refine hK _ _ (.inr ⟨hH.1.alloc _, hH.2.1.alloc _, hH.2.2.1.alloc _, hH.2.2.2.1.alloc _, hH.2.2.2.2.1.alloc _, hH.2.2.2.2.2.alloc _⟩) ?_
    clear hK K
    try simp only [Act.put, List.setIfInBounds_toArray, List.set_cons_zero, List.set_cons_succ, List.getElem_toArray, List.getElem_cons_zero, List.getElem_cons_succ]
    have hal : Below w5.heap.size w5 (w5.alloc (.cells #[.string tn, .slice CA cn cc, .slice XA xn xc, .slice A5 rn c5] 79)) := (Below.refl _ _).alloc (Nat.le_refl _) _
    refine wpAnyE_one (i := 18) (by kernel_rfl) rfl (by rfl) fun K hK => ?_
    refine oper_app (base := w.heap.size + 1 + 1 + 1) (n := i) (xs := xs) (news := [.string tn, .slice CA cn cc, .slice XA xn xc, .slice A5 rn c5]) (m := 1) (c := 1) tabT rfl (own_below HCop.out.own (below_then hb5' hb5'.size hal)) rfl (Rd.lit w5 #[.string tn, .slice CA cn cc, .slice XA xn xc, .slice A5 rn c5] 79 4 1 w5.heap.size rfl rfl) rfl (by intro u hu; simp only [List.mem_cons, List.mem_nil_iff, or_false] at hu; rcases hu with rfl | rfl | rfl | rfl <;> rfl) (by omega) (by omega) (by have h1 := hb5'.size; have h2 := HM.out; simp; omega) ?_
    intro A6 c6 w6 hown6 hb6 hg6 hat6
    have u6 := ((H3.out.below hb5').alloc (.cells #[.string tn, .slice CA cn cc, .slice XA xn xc, .slice A5 rn c5] 79)).belowM hb6 (by omega)
    have v6 := ((N1.out.below hb5').alloc (.cells #[.string tn, .slice CA cn cc, .slice XA xn xc, .slice A5 rn c5] 79)).belowM hb6 (by omega)
    have f6 := u6.fr 0
    have d6 := u6.c 0 (v := .slice A' i c') rfl
    have hH : _ ∧ _ ∧ _ ∧ _ ∧ _ ∧ _ := ⟨d6, v6.c 0 rfl, (hb6.cell (p := ⟨b, o + i * 4, none⟩) (by show b < _; omega)).trans ((x0.below hb5').alloc _), (hb6.cell (p := ⟨b, o + i * 4 + 1, none⟩) (by show b < _; omega)).trans ((x1.below hb5').alloc _), (hb6.cell (p := ⟨b, o + i * 4 + 2, none⟩) (by show b < _; omega)).trans ((x2.below hb5').alloc _), (hb6.cell (p := ⟨b, o + i * 4 + 3, none⟩) (by show b < _; omega)).trans ((x3.below hb5').alloc _)⟩
    refine hK _ _ (.inr hH) ?_
    clear hK K
    try simp only [Act.put, List.setIfInBounds_toArray, List.set_cons_zero, List.set_cons_succ, List.getElem_toArray, List.getElem_cons_zero, List.getElem_cons_succ]
    refine wpAnyE_take (i := 19) (v := ?_) (by kernel_rfl) rfl (by kernel_rfl) (by kernel_rfl) (by kernel_rfl) (fun _ _ _ h => h) (by rfl) hH ?_ ?_
    rotate_left
    · (rintro w' ⟨s0, s1, s2, s3, s4, s5⟩; go_simp; try with_reducible rfl)
    simp only [Act.put, List.setIfInBounds_toArray, List.set_cons_zero, List.set_cons_succ, List.getElem_toArray, List.getElem_cons_zero, List.getElem_cons_succ]
    refine wpAnyE_one (i := 20) (by kernel_rfl) rfl (by rfl) fun K hK => ?_
    go_simp
    refine hK _ _ (.inl rfl) ?_
    clear hK K
    try simp only [Act.put, List.setIfInBounds_toArray, List.set_cons_zero, List.set_cons_succ, List.getElem_toArray, List.getElem_cons_zero, List.getElem_cons_succ]
    refine wpAnyE_done (by kernel_rfl) ?_ _
    have hcap6 : i + 1 ≤ c6 := by
      obtain ⟨_, _, e, h5, _⟩ := own_form hown6
      injection e with _ _ e
      omega
    have hown5' : w5.ownsRow (w.heap.size + 1 + 1 + 1) 33 1 (.slice A5 rn c5) rn sl := by
      have := own_mono hown5 HM.out
      simpa using this
    obtain ⟨qT, qk1, qk2, qr1, qr2, qs⟩ := HPush.out
    have hcop5 := (HCop.out.below hb5').below hal
    have hpush : CopR F (w.heap.size + 1 + 1 + 1) w0 w6 (.slice A6 (i + 1) c6) (i + 1) W (xs ++ [.string tn, .slice CA cn cc, .slice XA xn xc, .slice A5 rn c5]) := by
      rw [← Htn.out, ← Hcn.out, ← Hxn.out, ← Hrn.out] at hown6 hg6 hcop5 ⊢
      refine hcop5.push qT hown6 hg6 qk1 qk2 qr1 qr2 (by have h9 := own_below hown5' hal; rw [← Htn.out, ← Hcn.out, ← Hxn.out, ← Hrn.out] at h9; exact h9) qs fun j u hu => ?_
      rw [Hrn.out]
      rcases hat5 with h | h
      · left; simpa [Value.ownBlock] using h
      right
      rw [show (Value.slice A5 rn c5).ownBlock = some wr.heap.size by simpa using h]
      intro e
      have hjn : j < i := by
        have h1 := (List.getElem?_eq_some_iff.1 hu).1
        have h2 : xs.length = i * 4 := own_len HCop.out.own
        omega
      have hjW : j < W.length := by rw [Hl.out]; omega
      obtain ⟨_, _, _, _, _, _, _, _, _, _, e3, _, _, _, _, _, ho, _⟩ := (HCop.out.tab j W[j] hjn (List.getElem?_eq_getElem hjW)).ex
      rw [hu] at e3
      rw [← Option.some.inj e3] at ho
      have := (own_bnd' ho _ e.symm).2
      omega
    have hB6 : Below w.heap.size w w6 := (below_then HB.out HB.out.size (below_chain hb5' hal)).trans (hb6.mono (by omega))
    have hB7 := hB6.setCell (p := ⟨w.heap.size + 1 + 1, 0, none⟩) (by show w.heap.size ≤ w.heap.size + 1 + 1; omega) (.slice A6 (i + 1) c6)
    have hM6 : w.heap.size + 1 + 1 + 1 ≤ w6.heap.size := by
      have h1 := hb6.size
      have h2 := hb5'.size
      have h3 := HM.out
      simp at h1
      omega
    have hN2 := (((N2.out.below hb5').below hal).belowM hb6 (by omega)).set_other (a := ⟨w.heap.size + 1 + 1, 0, none⟩) (by simp) (.slice A6 (i + 1) c6)
    have hN1 := v6.set_other (a := ⟨w.heap.size + 1 + 1, 0, none⟩) (by show w.heap.size ≠ w.heap.size + 1 + 1; omega) (.slice A6 (i + 1) c6)
    have hN3 := u6.set 0 (.slice A6 (i + 1) c6)
    have hC7 := hpush.set (a := ⟨w.heap.size + 1 + 1, 0, none⟩) (by simp) (.slice A6 (i + 1) c6)
    have HI := hide (And.intro hB7 (And.intro (show w.heap.size + 1 + 1 + 1 ≤ (w6.setCell ⟨w.heap.size + 1 + 1, 0, none⟩ (.slice A6 (i + 1) c6)).heap.size by simpa [World.setCell] using hM6) (And.intro hN1 (And.intro hN2 (And.intro hN3 hC7)))))
    clear hb5' hown5' qT qk1 qk2 qr1 qr2 qs hal hcop5 hpush hB6 hB7 hM6 hN2 hN1 hN3 hC7 hown5 hb5 hg5 hat5 hown6 hb6 hg6 hat6 u6 v6 f6 d6 x0 x1 x2 x3 c1 c3 hcap6 HPush HCop
    go_wp2_with fail
    exact ⟨⟨i + 1, hlt, by go_num, hide HI.out.1, hide HI.out.2.1, hide HI.out.2.2.1, hide HI.out.2.2.2.1, hide ⟨A6, c6, _, HI.out.2.2.2.2.1, HI.out.2.2.2.2.2⟩⟩, by simp [intOf]; omega⟩
theorem own_at {w : World} {M : Nat} {e : TypeId} {k n c : Nat} {A : Option Addr} {xs : List Value} (h : w.ownsRow M e k (.slice A n c) n xs) (hn : 0 < n) : ∃ g, A = some ⟨g, 0, none⟩ ∧ M ≤ g ∧ g < w.heap.size := by
  rcases h.2 with ⟨_, h0⟩ | ⟨g', cap, cur, h0, h1, h2, _⟩
  · omega
  injection h0 with h0
  exact ⟨g', h0, h1, (Array.getElem?_eq_some_iff.1 h2).1⟩
section
variable {F : Nat → Prop} {M n i : Nat} {w0 w : World} {W : List Tb} {xs : List Value} {A' : Option Addr} {c' : Nat} {U : Tb}
theorem CopR.len (h : CopR F M w0 w (.slice A' n c') n W xs) : xs.length = n * 4 := own_len h.own
def RowAt (F : Nat → Prop) (M : Nat) (w0 w : World) (Aq : Option Addr) (cq : Nat) (r : List V) : Prop := ((Rd w0 3 Aq r.length (rowCells r) ∧ NF F Aq r.length) ∨ w.ownsRow M 28 3 (.slice Aq r.length cq) r.length (rowCells r)) ∧ r.length ≤ 100000000
theorem CopR.dbr_set (h : CopR F M w0 w (.slice A' n c') n W xs) (hl : W.length = n) (hM : w0.heap.size ≤ M) (hb : Below w0.heap.size w0 w) (hF : ∀ b, F b → b < M) (hi : W[i]? = some U) {rows : List (List V)} {RB : Option Addr} {cb : Nat} {sl : List Value}
    (hown : w.ownsRow M 33 1 (.slice RB rows.length cb) rows.length sl) (hrows : ∀ (q : Nat) (r : List V), rows[q]? = some r → ∃ Aq cq, sl[q]? = some (.slice Aq r.length cq) ∧ RowAt F M w0 w Aq cq r) :
    ∃ g RA rc, A' = some ⟨g, 0, none⟩ ∧ C w g (i * 4 + 3) (.slice RA U.rows.length rc) ∧ w.frozen? ⟨g, i * 4 + 3, none⟩ = false ∧ M ≤ g ∧
      DBR F (w.setCell ⟨g, i * 4 + 3, none⟩ (.slice RB rows.length cb)) A' n (W.set i ⟨U.s, rows⟩) ∧ Below w0.heap.size w0 (w.setCell ⟨g, i * 4 + 3, none⟩ (.slice RB rows.length cb)) := by
  have hin : i < n := by rw [← hl]; exact (List.getElem?_eq_some_iff.1 hi).1
  obtain ⟨g, rfl, hMg, _⟩ := own_at h.own (by omega)
  obtain ⟨_, _, _, _, RA, rc, _, _, _, _, e3, _⟩ := (h.tab i U hin hi).ex
  obtain ⟨hst, hgr⟩ := h.own.stored (i * 4 + 3) (.slice RB rows.length cb)
  have hB := hb.setCell (p := ⟨g, i * 4 + 3, none⟩) (by show w0.heap.size ≤ g; omega) (.slice RB rows.length cb)
  have hother : ∀ {e k m : Nat} {v : Value} {ys : List Value}, e ≠ 79 → w.ownsRow M e k v m ys → (w.setCell ⟨g, i * 4 + 3, none⟩ (.slice RB rows.length cb)).ownsRow M e k v m ys := fun he ho => ho.kept hgr (own_diff' ho h.own he)
  refine ⟨g, RA, rc, rfl, (h.own.cellAt (i * 4 + 3) (by omega)).trans e3, h.own.frozenAt _, hMg, ?_, hB⟩
  refine DBR.of_cells (by rw [List.length_set]; exact hl) ⟨Rd.of_own hst, own_nf hst hF⟩ fun j T hT => ?_
  rw [set_get hi] at hT
  by_cases hj : j = i
  rotate_left
  · rw [if_neg hj] at hT
    have hjn : j < n := by rw [← hl]; exact (List.getElem?_eq_some_iff.1 hT).1
    have h4 := ((h.tab j T hjn hT).kept (w' := w.setCell ⟨g, i * 4 + 3, none⟩ (.slice RB rows.length cb)) fun _ _ _ _ ho => hother (by decide) ho).rows hB hF
    have q : ∀ t, t < 4 → (xs.set (i * 4 + 3) (.slice RB rows.length cb))[j * 4 + t]? = xs[j * 4 + t]? := fun t ht => List.getElem?_set_ne (by omega)
    have q0 : (xs.set (i * 4 + 3) (.slice RB rows.length cb))[j * 4]? = xs[j * 4]? := List.getElem?_set_ne (by omega)
    rw [q0, q 1 (by omega), q 2 (by omega), q 3 (by omega)]
    exact h4
  subst hj
  rw [if_pos rfl] at hT
  obtain rfl := Option.some.inj hT
  obtain ⟨CA, cc, XA, xc, _, _, _, e0, e1, e2, _, k1, k2, _, h1, h2, _⟩ := (h.tab j U hin hi).ex
  have hlen := h.len
  have k3 : rows.length ≤ cb := by
    obtain ⟨_, _, e, h5, _⟩ := own_form hown
    injection e with _ _ e
    omega
  refine ⟨CA, cc, XA, xc, RB, cb, ?_, ?_, ?_, ?_, k1, k2, k3, ⟨h1.1.below hB, h1.2⟩, ⟨h2.1.below hB, h2.2⟩, sl, ⟨Rd.of_own (hother (by decide) hown), own_nf hown hF⟩, rfl, fun q r hr => ?_⟩
  · rw [List.getElem?_set_ne (by omega)]; exact e0
  · rw [List.getElem?_set_ne (by omega)]; exact e1
  · rw [List.getElem?_set_ne (by omega)]; exact e2
  · rw [List.getElem?_set_self (by omega)]
  obtain ⟨Aq, cq, g1, g2, g3⟩ := hrows q r hr
  refine ⟨Aq, cq, g1, ?_, g3⟩
  rcases g2 with g2 | g2
  · exact ⟨g2.1.below hB, g2.2⟩
  exact ⟨Rd.of_own (hother (by decide) g2), own_nf g2 hF⟩
theorem CopR.dbr_row (h : CopR F M w0 w (.slice A' n c') n W xs) (hl : W.length = n) (hM : w0.heap.size ≤ M) (hb : Below w0.heap.size w0 w) (hF : ∀ b, F b → b < M) (hi : W[i]? = some U) {k : Nat} (hk : k < U.rows.length) {row : List V} {Aq : Option Addr} {cq : Nat} (hrow : RowAt F M w0 w Aq cq row) :
    ∃ g gr RA rc, A' = some ⟨g, 0, none⟩ ∧ C w g (i * 4 + 3) (.slice (some ⟨gr, 0, none⟩) U.rows.length rc) ∧ C w gr k RA ∧ w.frozen? ⟨gr, k, none⟩ = false ∧ M ≤ gr ∧
      DBR F (w.setCell ⟨gr, k, none⟩ (.slice Aq row.length cq)) A' n (W.set i ⟨U.s, U.rows.set k row⟩) ∧ Below w0.heap.size w0 (w.setCell ⟨gr, k, none⟩ (.slice Aq row.length cq)) := by
  have hin : i < n := by rw [← hl]; exact (List.getElem?_eq_some_iff.1 hi).1
  obtain ⟨g, rfl, hMg, _⟩ := own_at h.own (by omega)
  obtain ⟨CA, cc, XA, xc, RA, rc, sl, e0, e1, e2, e3, k1, k2, k3, h1, h2, h3, h4⟩ := (h.tab i U hin hi).ex
  obtain ⟨gr, rfl, hMr, _⟩ := own_at h3 (by omega)
  obtain ⟨hst, hgr⟩ := h3.stored k (.slice Aq row.length cq)
  have hB := hb.setCell (p := ⟨gr, k, none⟩) (by show w0.heap.size ≤ gr; omega) (.slice Aq row.length cq)
  have hother : ∀ {e k' m : Nat} {v : Value} {ys : List Value}, e ≠ 33 → w.ownsRow M e k' v m ys → (w.setCell ⟨gr, k, none⟩ (.slice Aq row.length cq)).ownsRow M e k' v m ys := fun he ho => ho.kept hgr (own_diff' ho h3 he)
  have hslk : k < sl.length := by have := own_len h3; omega
  refine ⟨g, gr, sl[k], rc, rfl, (h.own.cellAt (i * 4 + 3) (by omega)).trans e3, (h3.cellAt k (by omega)).trans (List.getElem?_eq_getElem hslk), h3.frozenAt _, hMr, ?_, hB⟩
  refine DBR.of_cells (by rw [List.length_set]; exact hl) ⟨Rd.of_own (hother (by decide) h.own), own_nf h.own hF⟩ fun j T hT => ?_
  rw [set_get hi] at hT
  by_cases hj : j = i
  · subst hj
    rw [if_pos rfl] at hT
    obtain rfl := Option.some.inj hT
    refine ⟨CA, cc, XA, xc, some ⟨gr, 0, none⟩, rc, e0, e1, e2, by rw [List.length_set]; exact e3, k1, k2, by rw [List.length_set]; exact k3, ⟨h1.1.below hB, h1.2⟩, ⟨h2.1.below hB, h2.2⟩, sl.set k (.slice Aq row.length cq), by rw [List.length_set]; exact ⟨Rd.of_own hst, own_nf hst hF⟩, rfl, fun q r hr => ?_⟩
    have hr' : (U.rows.set k row)[q]? = some r := hr
    by_cases hq : q = k
    · subst hq
      rw [List.getElem?_set_self hk] at hr'
      obtain rfl := Option.some.inj hr'
      refine ⟨Aq, cq, by rw [List.getElem?_set_self hslk], ?_, hrow.2⟩
      rcases hrow.1 with g2 | g2
      · exact ⟨g2.1.below hB, g2.2⟩
      exact ⟨Rd.of_own (hother (by decide) g2), own_nf g2 hF⟩
    rw [List.getElem?_set_ne (fun e => hq e.symm)] at hr'
    obtain ⟨Ap, cp, g1, g2, g3⟩ := h4 q r hr'
    exact ⟨Ap, cp, by rw [List.getElem?_set_ne (fun e => hq e.symm)]; exact g1, ⟨g2.1.below hB, g2.2⟩, g3⟩
  rw [if_neg hj] at hT
  have hjn : j < n := by rw [← hl]; exact (List.getElem?_eq_some_iff.1 hT).1
  refine ((h.tab j T hjn hT).kept (w' := w.setCell ⟨gr, k, none⟩ (.slice Aq row.length cq)) fun RB rb sb e3' ho => ho.kept hgr ?_).rows hB hF
  have hij : (Value.slice RB T.rows.length rb).ownBlock = none ∨ (Value.slice RB T.rows.length rb).ownBlock ≠ (Value.slice (some ⟨gr, 0, none⟩) U.rows.length rc).ownBlock := by
    rcases Nat.lt_or_gt_of_ne hj with hlt | hlt
    · rcases h.dis j i _ _ hlt e3' e3 with d | d
      · simp [Value.ownBlock] at d
      exact .inr fun e => d e.symm
    exact h.dis i j _ _ hlt e3 e3'
  simpa [Value.ownBlock] using hij
end
theorem Els.drop {α : Type} {P : α → List Value → Prop} {k : Nat} {L : List α} {xs : List Value} (h : Els P k L xs) (n : Nat) : Els P k (L.drop n) (xs.drop (n * k)) := by
  refine Els.of_get (by rw [List.length_drop, List.length_drop, h.len, Nat.sub_mul]) fun i hi => ?_
  rw [List.length_drop] at hi
  obtain ⟨v, hv, hp, hg⟩ := h.at_ (n + i) (by omega)
  refine ⟨v, hv, by rw [List.getElem_drop]; exact hp, fun j hj => ?_⟩
  rw [List.getElem?_drop, ← hg j hj, Nat.add_mul]
  congr 1; omega
theorem setCell_comm (w : World) (a b : Addr) (u v : Value) (h : a.block ≠ b.block) : (w.setCell a u).setCell b v = (w.setCell b v).setCell a u := by
  unfold World.setCell
  simp only [World.mk.injEq, and_true]
  apply Array.ext_getElem?
  intro k
  simp only [Array.getElem?_modify]
  by_cases ha : a.block = k
  · by_cases hb : b.block = k
    · exact absurd (ha.trans hb.symm) h
    simp [ha, hb]
  by_cases hb : b.block = k
  · simp [ha, hb]
  simp [ha, hb]
end Go.Proofs.YtekokogmnhlchaaGreatDoor
