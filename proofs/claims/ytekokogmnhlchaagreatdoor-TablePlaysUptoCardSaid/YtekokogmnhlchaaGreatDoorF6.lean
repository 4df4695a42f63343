import Derived.Test.YtekokogmnhlchaaGreatDoorF5
import Derived.Test.YtekokogmnhlchaaGreatDoorE4
import Derived.Test.YtekokogmnhlchaaGreatDoorD9
import Derived.Test.YtekokogmnhlchaaGreatDoorD3
set_option linter.unusedSimpArgs false
set_option linter.unusedVariables false
set_option linter.unusedSectionVars false
namespace Go.Proofs.YtekokogmnhlchaaGreatDoor
open Go.RowKit
def getRD (D : List Tb) (nm : ByteArray) (key : V) : List V := match findT D nm 0 with
  | none => []
  | some (_, T) => if rightV key = 0 then (wasT T key).getD [] else []
theorem RefD.get {D W : List Tb} (h : RefD D W) (ho : Ok D) (nm : ByteArray) (key : V) (hw : wf64 key.n) (hz : key.s.size ≤ 4000000) : getR15 W nm key = getRD D nm key := by
  rcases h.find nm with ⟨f1, f2⟩ | ⟨i, T, j, U, f1, f2, hR⟩
  · rw [getR15, getRD, f1, f2]
  obtain ⟨hT, _⟩ := findT_at f1
  rw [getR15, getRD, f1, f2]
  simp only
  by_cases hr : rightV key = 0
  · rw [if_pos hr, if_pos hr]
    rcases hR.fnd ho hT ⟨hr, hw, hz⟩ with ⟨A, r, B, h1, h2, h3, _⟩ | ⟨A, B, h1, h2, h3, _⟩
    · rw [h2, h3, h1]
      simp
    rw [h2, h3]
    simp
  rw [if_neg hr, if_neg hr]
theorem St.got {B0 db sb n : Nat} {w0 w : World} {D : List Tb} (h : St B0 w0 w db sb n D) (nm : ByteArray) (v : V) (hvw : wf64 v.n) (hvs : v.s.size ≤ 4000000) (hnm : nm.size ≤ 9223372036854775807) :
    Calls Tryz.prog 27 #[.pointer (some ⟨db, 0, none⟩), .string nm, v.val] w fun e w' => Got15 (getRD D nm v) (delE D nm v) e w' ∧ Below w.heap.size w w' := by
  refine (h.get nm v hvw hvs hnm).mono fun e w' hp => ⟨?_, hp.2⟩
  have hg := hp.1
  rw [GetOp] at hg
  cases hf : findT D nm 0 with
  | none =>
    rw [hf] at hg
    have e1 : getRD D nm v = [] := by rw [getRD, hf]
    have e2 : delE D nm v = 60 := by rw [delE, hf]
    rw [e1, e2]
    exact ⟨none, 0, hg, Rd.nil _ _ _⟩
  | some p =>
    obtain ⟨i, T⟩ := p
    rw [hf] at hg
    simp only [HeldP] at hg
    have e2 : delE D nm v = HeldE T v := by rw [delE, hf]; rfl
    split at hg
    · rename_i h0
      obtain ⟨r, A, c, h1, h2, h3⟩ := hg
      have hr : rightV v = 0 := by
        by_cases hr : rightV v = 0
        · exact hr
        rw [HeldE, if_neg hr] at h0
        omega
      have e1 : getRD D nm v = r := by rw [getRD, hf]; simp only [if_pos hr, h1]; rfl
      rw [e1, e2, h0]
      exact ⟨A, c, h2, Rd.of_own h3⟩
    rename_i h0
    have e1 : getRD D nm v = [] := by
      rw [getRD, hf]
      simp only
      split
      · rename_i hr
        cases hw : wasT T v with
        | none => rfl
        | some r =>
          exfalso
          apply h0
          rw [HeldE, if_pos hr, hw]
          rfl
      rfl
    rw [e1, e2]
    exact ⟨none, 0, hg, Rd.nil _ _ _⟩
set_option maxHeartbeats 6400000 in
set_option maxRecDepth 1000000 in
theorem both_get {B0 db sb n : Nat} {w0 w : World} {D : List Tb} (h : St B0 w0 w db sb n D) (hn : n ≤ 50000) {A : Option Addr} {m c : Nat} {W : List Tb} (hW : DBR (Foot w db) w A m W) (hr : RefD D W) (ov : OpV) (cs : List Value) (hop : OpAt B0 w ov cs) (hfit : ov.fit 1048576) (hk : ov.k = 5) :
    Calls Tryz.prog 33 #[.pointer (some ⟨db, 0, none⟩), .agg #[.slice A m c], .agg cs.toArray] w (Both B0 w0 w db sb (n + 8) (stepC D ov)) := by
  obtain ⟨kk, tt, ss, rr, ky, cq, lo, hi, lim⟩ := ov
  obtain ⟨CA, cc, XA, xc, RA, rc, rfl, k1, k2, k3, k4, k5, k6⟩ := hop
  dsimp only at k1 k2 k3 k4 k5 k6 hk ⊢
  subst hk
  have hok := h.ok
  have hoW := hr.okW hok
  have hm4 : m ≤ 4 := hW.1 ▸ hoW.n4
  have hb1 := (Below.refl w.heap.size w).alloc (Nat.le_refl _) (.cells #[.slice A m c] 73)
  have hb2 := hb1.alloc hb1.size (.cells #[.int .i64 5, .string tt, .string ss.name, .slice CA ss.cols.length cc, .slice XA ss.ixs.length xc, .slice RA rr.length rc, .int .i64 ky.k, .int .i64 ky.n, .string ky.s, .int .i64 cq, .int .i64 lo.k, .int .i64 lo.n, .string lo.s, .int .i64 hi.k, .int .i64 hi.n, .string hi.s, .int .i64 lim] 35)
  have hb3 := hb2.alloc hb2.size (.cells #[.slice none 0 0] 73)
  have n4 := ((Blk.new w #[.slice A m c] 73).alloc (.cells #[.int .i64 5, .string tt, .string ss.name, .slice CA ss.cols.length cc, .slice XA ss.ixs.length xc, .slice RA rr.length rc, .int .i64 ky.k, .int .i64 ky.n, .string ky.s, .int .i64 cq, .int .i64 lo.k, .int .i64 lo.n, .string lo.s, .int .i64 hi.k, .int .i64 hi.n, .string hi.s, .int .i64 lim] 35)).alloc (.cells #[.slice none 0 0] 73)
  have n5 := (Blk.new (w.alloc (.cells #[.slice A m c] 73)) #[.int .i64 5, .string tt, .string ss.name, .slice CA ss.cols.length cc, .slice XA ss.ixs.length xc, .slice RA rr.length rc, .int .i64 ky.k, .int .i64 ky.n, .string ky.s, .int .i64 cq, .int .i64 lo.k, .int .i64 lo.n, .string lo.s, .int .i64 hi.k, .int .i64 hi.n, .string hi.s, .int .i64 lim] 35).alloc (.cells #[.slice none 0 0] 73)
  have n6 := Blk.new ((w.alloc (.cells #[.slice A m c] 73)).alloc (.cells #[.int .i64 5, .string tt, .string ss.name, .slice CA ss.cols.length cc, .slice XA ss.ixs.length xc, .slice RA rr.length rc, .int .i64 ky.k, .int .i64 ky.n, .string ky.s, .int .i64 cq, .int .i64 lo.k, .int .i64 lo.n, .string lo.s, .int .i64 hi.k, .int .i64 hi.n, .string hi.s, .int .i64 lim] 35)) #[.slice none 0 0] 73
  rw [show (w.alloc (.cells #[.slice A m c] 73)).heap.size = w.heap.size + 1 by simp] at n5
  rw [show ((w.alloc (.cells #[.slice A m c] 73)).alloc (.cells #[.int .i64 5, .string tt, .string ss.name, .slice CA ss.cols.length cc, .slice XA ss.ixs.length xc, .slice RA rr.length rc, .int .i64 ky.k, .int .i64 ky.n, .string ky.s, .int .i64 cq, .int .i64 lo.k, .int .i64 lo.n, .string lo.s, .int .i64 hi.k, .int .i64 hi.n, .string hi.s, .int .i64 lim] 35)).heap.size = w.heap.size + 1 + 1 by simp] at n6
  obtain ⟨W1, hW1⟩ : ∃ W1, ((w.alloc (.cells #[.slice A m c] 73)).alloc (.cells #[.int .i64 5, .string tt, .string ss.name, .slice CA ss.cols.length cc, .slice XA ss.ixs.length xc, .slice RA rr.length rc, .int .i64 ky.k, .int .i64 ky.n, .string ky.s, .int .i64 cq, .int .i64 lo.k, .int .i64 lo.n, .string lo.s, .int .i64 hi.k, .int .i64 hi.n, .string hi.s, .int .i64 lim] 35)).alloc (.cells #[.slice none 0 0] 73) = W1 := ⟨_, rfl⟩
  rw [hW1] at n4 n5 n6 hb3
  have hdb := h.lt
  have hS1 := h.below hb3
  have hD1 := hW.below hb3
  have hstep : stepC D ⟨5, tt, ss, rr, ky, cq, lo, hi, lim⟩ = D := rfl
  rw [hstep]
  have d0 := n5.c 0 (v := .int .i64 5) rfl
  have d1 := n5.c 1 (v := .string tt) rfl
  have d6 := n5.c 6 (v := .int .i64 ky.k) rfl
  have d7 := n5.c 7 (v := .int .i64 ky.n) rfl
  have d8 := n5.c 8 (v := .string ky.s) rfl
  have d9 := n5.c 9 (v := .int .i64 cq) rfl
  have d10 := n5.c 10 (v := .int .i64 lo.k) rfl
  have d11 := n5.c 11 (v := .int .i64 lo.n) rfl
  have d12 := n5.c 12 (v := .string lo.s) rfl
  have d13 := n5.c 13 (v := .int .i64 hi.k) rfl
  have d14 := n5.c 14 (v := .int .i64 hi.n) rfl
  have d15 := n5.c 15 (v := .string hi.s) rfl
  have d16 := n5.c 16 (v := .int .i64 lim) rfl
  have hcall : Calls Tryz.prog 27 #[.pointer (some ⟨db, 0, none⟩), .string tt, .agg #[.int .i64 ky.k, .int .i64 ky.n, .string ky.s]] W1 _ := hS1.got tt ky hfit.key.2.1 (Nat.le_trans hfit.key.2.2 (by omega)) (Nat.le_trans hfit.tb (by omega))
  have href : ∀ W2, Below W1.heap.size W1 W2 → Calls Tryz.prog 80 #[.agg #[.slice A m c], .string tt, .agg #[.int .i64 ky.k, .int .i64 ky.n, .string ky.s]] W2 fun e w' => Got15 (getRD D tt ky) (delE D tt ky) e w' ∧ Below W2.heap.size W2 w' := fun W2 hb => by
    have h1 := get15_any A m c W tt ky W2 (hD1.below hb) hoW hfit.key.2.1 (Nat.le_trans hfit.key.2.2 (by omega))
    rw [hr.get hok tt ky hfit.key.2.1 (Nat.le_trans hfit.key.2.2 (by omega)), (hr.del hok tt ky hfit.key.2.1 (Nat.le_trans hfit.key.2.2 (by omega))).1] at h1
    exact h1
  obtain ⟨R, hR⟩ : ∃ R, getRD D tt ky = R := ⟨_, rfl⟩
  obtain ⟨E, hE⟩ : ∃ E, delE D tt ky = E := ⟨_, rfl⟩
  rw [hR, hE] at hcall href
  have hRl : R.length ≤ 1000 := by
    rw [← hR, getRD]
    cases hf : findT D tt 0 with
    | none => simp
    | some p =>
      obtain ⟨i, T⟩ := p
      simp only
      split
      · cases hw : wasT T ky with
        | none => simp
        | some r =>
          obtain ⟨hT, _⟩ := findT_at hf
          have h1 := hok.fit i T hT r (wasT_some hw).1
          have h2 := fits_len h1.fit
          have h3 := (right_facts (hok.right i T hT)).c3
          simp only [Option.getD_some]
          omega
      simp
  have Hcall := hide hcall
  have Href := hide href
  have N4 := hide n4
  have N5 := hide n5
  have N6 := hide n6
  have S1 := hide hS1
  have D1 := hide hW
  have HB3 := hide hb3
  have Hr := hide hr
  have Hh := hide h
  clear hcall href n4 n5 n6 hS1 hD1 hb1 hb2 hb3 hr hok hoW hfit k4 k5 k6 hW h hR hE hstep d9 d10 d11 d12 d13 d14 d15 d16
  go_enter Tryz.func33, Tryz.ntmps33
  go_wp2_with fail
  refine Hcall.out.mono ?_
  rintro e w2 ⟨hg2, hb2⟩
  obtain ⟨PA, pc, rfl, hrd2⟩ := hg2
  have m4 := N4.out.below hb2
  have m5 := N5.out.below hb2
  have d1 := m5.c 1 (v := .string tt) rfl
  have d6 := m5.c 6 (v := .int .i64 ky.k) rfl
  have d7 := m5.c 7 (v := .int .i64 ky.n) rfl
  have d8 := m5.c 8 (v := .string ky.s) rfl
  have b0 := m4.c 0 (v := .slice A m c) rfl
  have Href2 := hide (Href.out w2 hb2)
  have HB2 := hide hb2
  have Hrd2 := hide hrd2
  clear m4 m5 Hcall Href hb2 hrd2
  go_wp2_with fail
  refine Href2.out.mono ?_
  rintro e w3 ⟨hg3, hb3⟩
  obtain ⟨QA, qc, rfl, hrd3⟩ := hg3
  have HB3' := hide (below_then HB2.out HB2.out.size hb3)
  have g4 := N4.out.below HB3'.out
  have g6 := N6.out.below HB3'.out
  have b0 := g4.c 0 (v := .slice A m c) rfl
  have a6 := g6.c 0 (v := .slice none 0 0) rfl
  have f6 := g6.fr 0
  have hsame := fun W4 (hb : Below w3.heap.size w3 W4) => same_any PA QA R.length pc R.length qc R R W4 rfl rfl ((Hrd2.out.below hb3).below hb) (hrd3.below hb) (by omega)
  simp only [decide_true] at hsame
  have G4 := hide g4
  have G6 := hide g6
  have Hsame := hide hsame
  clear hb3 hrd3 g4 g6 hsame Href2 d0 d1 d6 d7 d8
  go_wp2_with fail
  refine wp_region_E 10 (fun w' => w'.cell? ⟨w.heap.size, 0, none⟩ = some (.slice A m c)) (by kernel_rfl) ?_
  have hH : C w3.drew w.heap.size 0 (.slice A m c) := b0
  refine wpAnyE_take (i := 0) (v := ?_) (by kernel_rfl) rfl (by kernel_rfl) (by kernel_rfl) (by kernel_rfl) (fun _ _ _ h => h) (by rfl) hH ?_ ?_
  rotate_left
  · (intro w' s0; go_simp; try with_reducible rfl)
  simp only [Act.put, List.setIfInBounds_toArray, List.set_cons_zero, List.set_cons_succ, List.getElem_toArray, List.getElem_cons_zero, List.getElem_cons_succ]
  refine wpAnyE_take (i := 1) (v := ?_) (by kernel_rfl) rfl (by kernel_rfl) (by kernel_rfl) (by kernel_rfl) (fun _ _ _ h => h) (by rfl) hH ?_ ?_
  rotate_left
  · (intro w' s0; go_simp; try with_reducible rfl)
  simp only [Act.put, List.setIfInBounds_toArray, List.set_cons_zero, List.set_cons_succ, List.getElem_toArray, List.getElem_cons_zero, List.getElem_cons_succ]
  refine wpAnyE_take (i := 2) (v := ?_) (by kernel_rfl) rfl (by kernel_rfl) (by kernel_rfl) (by kernel_rfl) (fun _ _ _ h => h) (by rfl) hH ?_ ?_
  rotate_left
  · (intro w' s0; go_simp; try with_reducible rfl)
  simp only [Act.put, List.setIfInBounds_toArray, List.set_cons_zero, List.set_cons_succ, List.getElem_toArray, List.getElem_cons_zero, List.getElem_cons_succ]
  refine wpAnyE_take (i := 3) (v := ?_) (by kernel_rfl) rfl (by kernel_rfl) (by kernel_rfl) (by kernel_rfl) (fun _ _ _ h => h) (by rfl) hH ?_ ?_
  rotate_left
  · (intro w' s0; go_simp; try with_reducible rfl)
  simp only [Act.put, List.setIfInBounds_toArray, List.set_cons_zero, List.set_cons_succ, List.getElem_toArray, List.getElem_cons_zero, List.getElem_cons_succ]
  refine wpAnyE_take (i := 4) (v := ?_) (by kernel_rfl) rfl (by kernel_rfl) (by kernel_rfl) (by kernel_rfl) (fun _ _ _ h => h) (by rfl) hH ?_ ?_
  rotate_left
  · (intro w' s0; go_simp; try with_reducible rfl)
  simp only [Act.put, List.setIfInBounds_toArray, List.set_cons_zero, List.set_cons_succ, List.getElem_toArray, List.getElem_cons_zero, List.getElem_cons_succ]
  refine wpAnyE_take (i := 5) (v := ?_) (by kernel_rfl) rfl (by kernel_rfl) (by kernel_rfl) (by kernel_rfl) (fun _ _ _ h => h) (by rfl) hH ?_ ?_
  rotate_left
  · (intro w' s0; go_simp; try with_reducible rfl)
  simp only [Act.put, List.setIfInBounds_toArray, List.set_cons_zero, List.set_cons_succ, List.getElem_toArray, List.getElem_cons_zero, List.getElem_cons_succ]
  refine wpAnyE_take (i := 6) (v := ?_) (by kernel_rfl) rfl (by kernel_rfl) (by kernel_rfl) (by kernel_rfl) (fun _ _ _ h => h) (by rfl) hH ?_ ?_
  rotate_left
  · (intro w' s0; go_simp; try with_reducible rfl)
  simp only [Act.put, List.setIfInBounds_toArray, List.set_cons_zero, List.set_cons_succ, List.getElem_toArray, List.getElem_cons_zero, List.getElem_cons_succ]
  refine wpAnyE_one (i := 7) (by kernel_rfl) rfl (by rfl) fun K hK => ?_
  refine oper_call (f := 34) (args := [.tmp 174, .tmp 175]) (vs := [.slice PA R.length pc, .slice QA R.length qc]) rfl rfl (by simp [invoke, go_sem]) (Hsame.out w3.drew (Below.refl _ _).drew) ?_
  rintro e w4 ⟨rfl, hb4⟩
  refine ⟨_, rfl, ?_⟩
  have hb34 := undrewd hb4
  have hH : C w4 w.heap.size 0 (.slice A m c) := b0.below hb34
  refine hK _ _ (.inr hH) ?_
  clear hK K
  simp only [Act.put, List.setIfInBounds_toArray, List.set_cons_zero, List.set_cons_succ, List.getElem_toArray, List.getElem_cons_zero, List.getElem_cons_succ]
  refine wpAnyE_take (i := 8) (v := ?_) (by kernel_rfl) rfl (by kernel_rfl) (by kernel_rfl) (by kernel_rfl) (fun _ _ _ h => h) (by rfl) hH ?_ ?_
  rotate_left
  · (intro w' s0; go_simp; try with_reducible rfl)
  simp only [Act.put, List.setIfInBounds_toArray, List.set_cons_zero, List.set_cons_succ, List.getElem_toArray, List.getElem_cons_zero, List.getElem_cons_succ]
  have y6 := G6.out.below hb34
  have a6' := y6.c 0 (v := .slice none 0 0) rfl
  have f6' := y6.fr 0
  have z6 := y6.set 0 (.slice A m c)
  have r6 := z6.c 0 (v := .slice A m c) rfl
  have hbF : Below w.heap.size w (w4.setCell ⟨w.heap.size + 1 + 1, 0, none⟩ (.slice A m c)) := (below_then HB3.out HB3.out.size (below_then HB3'.out HB3'.out.size hb34)).setCell (p := ⟨w.heap.size + 1 + 1, 0, none⟩) (by show w.heap.size ≤ w.heap.size + 1 + 1; omega) _
  have HBF := hide hbF
  have hH9 : C (w4.setCell ⟨w.heap.size + 1 + 1, 0, none⟩ (.slice A m c)) w.heap.size 0 (.slice A m c) := ((G4.out.below hb34).set_other (a := ⟨w.heap.size + 1 + 1, 0, none⟩) (by show w.heap.size ≠ w.heap.size + 1 + 1; omega) _).c 0 rfl
  clear y6 z6 hbF
  refine wpAnyE_one (i := 9) (by kernel_rfl) rfl (by rfl) fun K hK => ?_
  go_simp
  refine hK _ _ (.inr hH9) ?_
  clear hK K
  try simp only [Act.put, List.setIfInBounds_toArray, List.set_cons_zero, List.set_cons_succ, List.getElem_toArray, List.getElem_cons_zero, List.getElem_cons_succ]
  refine wpAnyE_one (i := 10) (by kernel_rfl) rfl (by rfl) fun K hK => ?_
  refine oper_assign rfl rfl ?_
  refine hK _ _ (.inl rfl) ?_
  clear hK K
  try simp only [Act.put, List.setIfInBounds_toArray, List.set_cons_zero, List.set_cons_succ, List.getElem_toArray, List.getElem_cons_zero, List.getElem_cons_succ]
  refine wpAnyE_done (by kernel_rfl) ?_ _
  have HS := hide (Hh.out.below HBF.out)
  clear a6 f6 a6' f6' hH hH9 b0 hb34
  go_wp2_with fail
  all_goals
    refine bodyPost_ret (v := .tuple #[.agg #[.slice A m c], .bool true]) (by simp [results, Tryz.results33, go_sem, r6]) rfl ?_
    exact ⟨A, m, c, W, rfl, HS.out.more (by omega), (D1.out.below HBF.out).congr fun b hb => (foot_same (HBF.out.block db hdb) b).1 hb, Hr.out, Upd.of_below HBF.out hdb⟩
def scanED (D : List Tb) (nm : ByteArray) (c : Int) (lo hi : V) (limit : Int) : Int := match findT D nm 0 with
  | none => 60
  | some (_, T) => scanE T c lo hi limit
def ScanR (D : List Tb) (nm : ByteArray) (c : Int) (lo hi : V) (limit : Int) (R : List (List V)) : Prop := match findT D nm 0 with
  | none => R = []
  | some (i, T) => if scanE T c lo hi limit = 0 then ∃ S, ScanL T i c lo hi S ∧ R = S.take limit.toNat else R = []
def OutX (N : Nat) (w : World) (A : Option Addr) (c n : Nat) (L : List (List V)) : Prop := L.length = n ∧ ∃ sl : List Value, w.ownsRow N 33 1 (.slice A n c) n sl ∧
  ∀ (j : Nat) (r : List V), L[j]? = some r → ∃ g cj xs, sl[j]? = some (.slice (some ⟨g, 0, none⟩) r.length cj) ∧ w.ownsRow N 28 3 (.slice (some ⟨g, 0, none⟩) r.length cj) r.length xs
theorem OutR.x {N n c : Nat} {w : World} {A : Option Addr} {L : List (List V)} (h : OutR N w A c n L) : OutX N w A c n L := by
  obtain ⟨h0, sl, h1, h2⟩ := h
  exact ⟨h0, sl, h1, fun j r hj => by obtain ⟨g, cj, h3, h4⟩ := h2 j r hj; exact ⟨g, cj, _, h3, h4⟩⟩
theorem OutX.below {N n c : Nat} {w w' : World} {A : Option Addr} {L : List (List V)} (h : OutX N w A c n L) (hb : Below w.heap.size w w') : OutX N w' A c n L := by
  obtain ⟨h0, sl, h1, h2⟩ := h
  exact ⟨h0, sl, own_below h1 hb, fun j r hj => by obtain ⟨g, cj, xs, h3, h4⟩ := h2 j r hj; exact ⟨g, cj, xs, h3, own_below h4 hb⟩⟩
theorem own_any {N e k n : Nat} {w : World} {v : Value} {xs : List Value} (h : w.ownsRow N e k v n xs) (g o : Nat) (u : Value) : ∃ xs', (w.setCell ⟨g, o, none⟩ u).ownsRow N e k v n xs' := by
  rcases h.2 with ⟨h0, h1⟩ | ⟨g', cap, cur, h0, hb, hh, hr⟩
  · exact ⟨xs, h.1, .inl ⟨h0, h1⟩⟩
  by_cases hg : g' = g
  · subst hg
    rw [h0] at h ⊢
    exact ⟨_, (h.stored o u).1⟩
  refine ⟨xs, h.1, .inr ⟨g', cap, cur, h0, hb, (Below.heap_setCell w ⟨g, o, none⟩ u g' hg).trans hh, hr⟩⟩
theorem OutX.set {N n c : Nat} {w : World} {A : Option Addr} {L : List (List V)} (h : OutX N w A c n L) {N' m cj g k : Nat} {xs : List Value} (hg : w.ownsRow N' 28 k (.slice (some ⟨g, 0, none⟩) m cj) m xs) (o : Nat) (u : Value) : OutX N (w.setCell ⟨g, o, none⟩ u) A c n L := by
  obtain ⟨h0, sl, h1, h2⟩ := h
  refine ⟨h0, sl, h1.kept (hg.stored o u).2 (by have := own_diff h1 hg (by decide); simpa [Value.ownBlock] using this), fun j r hj => ?_⟩
  obtain ⟨g', cj', xs', h3, h4⟩ := h2 j r hj
  obtain ⟨ys, h5⟩ := own_any h4 g o u
  exact ⟨g', cj', ys, h3, h5⟩
theorem OutX.at_ {N n c : Nat} {w : World} {A : Option Addr} {L : List (List V)} (h : OutX N w A c n L) (j : Nat) (hj : j < n) {r : List V} (hr : L[j]? = some r) : ∃ b g cj xs, A = some ⟨b, 0, none⟩ ∧ C w b j (.slice (some ⟨g, 0, none⟩) r.length cj) ∧ N ≤ g ∧ w.ownsRow N 28 3 (.slice (some ⟨g, 0, none⟩) r.length cj) r.length xs := by
  obtain ⟨h0, sl, h1, h2⟩ := h
  obtain ⟨b, rfl, _, _⟩ := own_ptr h1 (by omega)
  obtain ⟨g, cj, xs, h3, h4⟩ := h2 j r hr
  exact ⟨b, g, cj, xs, rfl, (h1.cellAt j (by omega)).trans h3, (own_bnd h4 g rfl).1, h4⟩
theorem St.scanned {B0 db sb n : Nat} {w0 w : World} {D : List Tb} (h : St B0 w0 w db sb n D) (nm : ByteArray) (c : Int) (lo hi : V) (limit : Int) (hn : n ≤ 50000) (hnm : nm.size ≤ 9223372036854775807) (hlw : wf64 lo.n) (hls : lo.s.size ≤ 4000000) (hhw : wf64 hi.n) (hhs : hi.s.size ≤ 4000000) :
    Calls Tryz.prog 20 #[.pointer (some ⟨db, 0, none⟩), .string nm, .int .i64 c, lo.val, hi.val, .int .i64 limit] w fun e w' => (∃ R A c' cl, e = .returned (.tuple #[.slice A R.length c', .int .i64 (scanED D nm c lo hi limit)]) ∧ OutR w.heap.size w' A cl R.length R ∧ ScanR D nm c lo hi limit R ∧ R.length ≤ 64 ∧ ∀ r ∈ R, r.length ≤ 3) ∧ Below w.heap.size w w' := by
  refine (h.scan nm c lo hi limit hn hnm hlw hls hhw hhs).mono fun e w' hp => ⟨?_, hp.2⟩
  have hg := hp.1
  have ho := h.ok
  cases hf : findT D nm 0 with
  | none =>
    rw [hf] at hg
    exact ⟨[], none, 0, 0, by rw [scanED, hf]; exact hg, OutR.nil _ _, by simp only [ScanR, hf], Nat.zero_le _, by simp⟩
  | some p =>
    obtain ⟨i, T⟩ := p
    rw [hf] at hg
    simp only at hg
    obtain ⟨hT, _⟩ := findT_at hf
    split at hg
    · rename_i h0
      obtain ⟨S, A, c', h1, h2, h3⟩ := hg
      have hin : ∀ r ∈ S.take limit.toNat, r ∈ T.rows := fun r hr => ((h1.mem r).1 (List.mem_of_mem_take hr)).1
      obtain ⟨cl, h4⟩ := h3.out fun r hr => (ho.fit i T hT r (hin r hr)).pos (ho.right i T hT)
      have hl : (S.take limit.toNat).length = min S.length limit.toNat := by rw [List.length_take]; omega
      have hnd : S.Nodup := h1.srt.imp fun {a b} hab e => by rw [e, cmpB_refl] at hab; omega
      have h64 := ho.n64 i T hT
      have hS := nodup_len (b := T.rows) hnd fun x hx => ((h1.mem x).1 hx).1
      refine ⟨S.take limit.toNat, A, c', cl, by rw [hl, scanED, hf]; simp only; rw [h0]; exact h2, by rw [hl]; exact h4, by simp only [ScanR, hf]; rw [if_pos h0]; exact ⟨S, h1, rfl⟩, by omega, fun r hr => ?_⟩
      rw [fits_len (ho.fit i T hT r (hin r hr)).fit]
      exact (right_facts (ho.right i T hT)).c3
    rename_i h0
    exact ⟨[], none, 0, 0, by rw [scanED, hf]; exact hg, OutR.nil _ _, by simp only [ScanR, hf]; rw [if_neg h0]; trivial, Nat.zero_le _, by simp⟩
def ScanG (R : List (List V)) (E : Int) (e : Ending) (w' : World) : Prop := ∃ A c', e = .returned (.tuple #[.slice A R.length c', .int .i64 E]) ∧ RowsR w' A R.length R
theorem scan15_ref {D W : List Tb} (hr : RefD D W) (ho : Ok D) {nm : ByteArray} {c : Int} {lo hi : V} {limit : Int} {R : List (List V)} (hlw : wf64 lo.n) (hls : lo.s.size ≤ 4000000) (hhw : wf64 hi.n) (hhs : hi.s.size ≤ 4000000) (hR : ScanR D nm c lo hi limit R) {e : Ending} {w' : World} (h : Scan15 W nm c lo hi limit e w') : ScanG R (scanED D nm c lo hi limit) e w' := by
  rw [Scan15] at h
  rw [ScanR] at hR
  rcases hr.find nm with ⟨f1, f2⟩ | ⟨i, T, j, U, f1, f2, hT⟩
  · rw [f2] at h
    rw [f1] at hR
    simp only at hR
    subst hR
    exact ⟨none, 0, by rw [scanED, f1]; exact h, [], Rd.nil _ _ _, rfl, fun j r hj => by simp at hj⟩
  obtain ⟨hTD, _⟩ := findT_at f1
  rw [f2] at h
  rw [f1] at hR
  simp only at h hR
  have he : scanE U c lo hi limit = scanE T c lo hi limit := by rw [scanE, scanE, hT.s]
  rw [he] at h
  by_cases h0 : scanE T c lo hi limit = 0
  rotate_left
  · rw [if_neg h0] at h hR
    subst hR
    exact ⟨none, 0, by rw [scanED, f1]; exact h, [], Rd.nil _ _ _, rfl, fun j r hj => by simp at hj⟩
  rw [if_pos h0] at h hR
  obtain ⟨X, A, c', h1, h2, h3⟩ := h
  obtain ⟨S, h4, rfl⟩ := hR
  have hval : rightV lo = 0 ∧ rightV hi = 0 := by
    have h5 := h0
    rw [scanE] at h5
    split at h5
    · split at h5
      · omega
      rename_i h6
      constructor
      · by_cases h7 : rightV lo = 0
        · exact h7
        exact absurd (.inl h7) h6
      by_cases h7 : rightV hi = 0
      · exact h7
      exact absurd (.inr h7) h6
    omega
  have hSX := scan_both ho hTD hT ⟨hval.1, hlw, hls⟩ ⟨hval.2, hhw, hhs⟩ h4 h1
  subst hSX
  have hl : (S.take limit.toNat).length = min S.length limit.toNat := by rw [List.length_take]; omega
  exact ⟨A, c', by rw [hl, scanED, f1]; simp only; rw [h0]; exact h2, by rw [hl]; exact h3⟩
set_option maxHeartbeats 6400000 in
set_option maxRecDepth 1000000 in
theorem both_scan {B0 db sb n : Nat} {w0 w : World} {D : List Tb} (h : St B0 w0 w db sb n D) (hn : n ≤ 50000) {A : Option Addr} {m c : Nat} {W : List Tb} (hW : DBR (Foot w db) w A m W) (hr : RefD D W) (ov : OpV) (cs : List Value) (hop : OpAt B0 w ov cs) (hfit : ov.fit 1048576) (hk : ov.k ≠ 1 ∧ ov.k ≠ 2 ∧ ov.k ≠ 3 ∧ ov.k ≠ 4 ∧ ov.k ≠ 5) :
    Calls Tryz.prog 33 #[.pointer (some ⟨db, 0, none⟩), .agg #[.slice A m c], .agg cs.toArray] w (Both B0 w0 w db sb (n + 8) (stepC D ov)) := by
  obtain ⟨kk, tt, ss, rr, ky, cq, lo, hi, lim⟩ := ov
  obtain ⟨CA, cc, XA, xc, RA, rc, rfl, k1, k2, k3, k4, k5, k6⟩ := hop
  dsimp only at k1 k2 k3 k4 k5 k6 hk ⊢
  obtain ⟨hk1, hk2, hk3, hk4, hk5⟩ := hk
  have hok := h.ok
  have hoW := hr.okW hok
  have hm4 : m ≤ 4 := hW.1 ▸ hoW.n4
  have hb1 := (Below.refl w.heap.size w).alloc (Nat.le_refl _) (.cells #[.slice A m c] 73)
  have hb2 := hb1.alloc hb1.size (.cells #[.int .i64 kk, .string tt, .string ss.name, .slice CA ss.cols.length cc, .slice XA ss.ixs.length xc, .slice RA rr.length rc, .int .i64 ky.k, .int .i64 ky.n, .string ky.s, .int .i64 cq, .int .i64 lo.k, .int .i64 lo.n, .string lo.s, .int .i64 hi.k, .int .i64 hi.n, .string hi.s, .int .i64 lim] 35)
  have hb3 := hb2.alloc hb2.size (.cells #[.slice none 0 0] 73)
  have n4 := ((Blk.new w #[.slice A m c] 73).alloc (.cells #[.int .i64 kk, .string tt, .string ss.name, .slice CA ss.cols.length cc, .slice XA ss.ixs.length xc, .slice RA rr.length rc, .int .i64 ky.k, .int .i64 ky.n, .string ky.s, .int .i64 cq, .int .i64 lo.k, .int .i64 lo.n, .string lo.s, .int .i64 hi.k, .int .i64 hi.n, .string hi.s, .int .i64 lim] 35)).alloc (.cells #[.slice none 0 0] 73)
  have n5 := (Blk.new (w.alloc (.cells #[.slice A m c] 73)) #[.int .i64 kk, .string tt, .string ss.name, .slice CA ss.cols.length cc, .slice XA ss.ixs.length xc, .slice RA rr.length rc, .int .i64 ky.k, .int .i64 ky.n, .string ky.s, .int .i64 cq, .int .i64 lo.k, .int .i64 lo.n, .string lo.s, .int .i64 hi.k, .int .i64 hi.n, .string hi.s, .int .i64 lim] 35).alloc (.cells #[.slice none 0 0] 73)
  have n6 := Blk.new ((w.alloc (.cells #[.slice A m c] 73)).alloc (.cells #[.int .i64 kk, .string tt, .string ss.name, .slice CA ss.cols.length cc, .slice XA ss.ixs.length xc, .slice RA rr.length rc, .int .i64 ky.k, .int .i64 ky.n, .string ky.s, .int .i64 cq, .int .i64 lo.k, .int .i64 lo.n, .string lo.s, .int .i64 hi.k, .int .i64 hi.n, .string hi.s, .int .i64 lim] 35)) #[.slice none 0 0] 73
  rw [show (w.alloc (.cells #[.slice A m c] 73)).heap.size = w.heap.size + 1 by simp] at n5
  rw [show ((w.alloc (.cells #[.slice A m c] 73)).alloc (.cells #[.int .i64 kk, .string tt, .string ss.name, .slice CA ss.cols.length cc, .slice XA ss.ixs.length xc, .slice RA rr.length rc, .int .i64 ky.k, .int .i64 ky.n, .string ky.s, .int .i64 cq, .int .i64 lo.k, .int .i64 lo.n, .string lo.s, .int .i64 hi.k, .int .i64 hi.n, .string hi.s, .int .i64 lim] 35)).heap.size = w.heap.size + 1 + 1 by simp] at n6
  obtain ⟨W1, hW1⟩ : ∃ W1, ((w.alloc (.cells #[.slice A m c] 73)).alloc (.cells #[.int .i64 kk, .string tt, .string ss.name, .slice CA ss.cols.length cc, .slice XA ss.ixs.length xc, .slice RA rr.length rc, .int .i64 ky.k, .int .i64 ky.n, .string ky.s, .int .i64 cq, .int .i64 lo.k, .int .i64 lo.n, .string lo.s, .int .i64 hi.k, .int .i64 hi.n, .string hi.s, .int .i64 lim] 35)).alloc (.cells #[.slice none 0 0] 73) = W1 := ⟨_, rfl⟩
  rw [hW1] at n4 n5 n6 hb3
  have hdb := h.lt
  have hS1 := h.below hb3
  have hD1 := hW.below hb3
  have hstep : stepC D ⟨kk, tt, ss, rr, ky, cq, lo, hi, lim⟩ = D := by unfold stepC; rw [if_neg hk1, if_neg hk2, if_neg hk3, if_neg hk4]
  rw [hstep]
  have d0 := n5.c 0 (v := .int .i64 kk) rfl
  have d1 := n5.c 1 (v := .string tt) rfl
  have d6 := n5.c 6 (v := .int .i64 ky.k) rfl
  have d7 := n5.c 7 (v := .int .i64 ky.n) rfl
  have d8 := n5.c 8 (v := .string ky.s) rfl
  have d9 := n5.c 9 (v := .int .i64 cq) rfl
  have d10 := n5.c 10 (v := .int .i64 lo.k) rfl
  have d11 := n5.c 11 (v := .int .i64 lo.n) rfl
  have d12 := n5.c 12 (v := .string lo.s) rfl
  have d13 := n5.c 13 (v := .int .i64 hi.k) rfl
  have d14 := n5.c 14 (v := .int .i64 hi.n) rfl
  have d15 := n5.c 15 (v := .string hi.s) rfl
  have d16 := n5.c 16 (v := .int .i64 lim) rfl
  have hcall : Calls Tryz.prog 20 #[.pointer (some ⟨db, 0, none⟩), .string tt, .int .i64 cq, .agg #[.int .i64 lo.k, .int .i64 lo.n, .string lo.s], .agg #[.int .i64 hi.k, .int .i64 hi.n, .string hi.s], .int .i64 lim] W1 _ := hS1.scanned tt cq lo hi lim hn (Nat.le_trans hfit.tb (by omega)) hfit.lo.2.1 (Nat.le_trans hfit.lo.2.2 (by omega)) hfit.hi.2.1 (Nat.le_trans hfit.hi.2.2 (by omega))
  have href : ∀ W2 R, ScanR D tt cq lo hi lim R → Below W1.heap.size W1 W2 → Calls Tryz.prog 81 #[.agg #[.slice A m c], .string tt, .int .i64 cq, .agg #[.int .i64 lo.k, .int .i64 lo.n, .string lo.s], .agg #[.int .i64 hi.k, .int .i64 hi.n, .string hi.s], .int .i64 lim] W2 fun e w' => ScanG R (scanED D tt cq lo hi lim) e w' ∧ Below W2.heap.size W2 w' := fun W2 R hR hb =>
    (scan15_any A m c W tt cq lo hi lim W2 (hD1.below hb) hoW hr.srt hfit.lo.2.1 (Nat.le_trans hfit.lo.2.2 (by omega)) hfit.hi.2.1 (Nat.le_trans hfit.hi.2.2 (by omega))).mono fun e w' hp => ⟨scan15_ref hr hok hfit.lo.2.1 (Nat.le_trans hfit.lo.2.2 (by omega)) hfit.hi.2.1 (Nat.le_trans hfit.hi.2.2 (by omega)) hR hp.1, hp.2⟩
  obtain ⟨E, hE⟩ : ∃ E, scanED D tt cq lo hi lim = E := ⟨_, rfl⟩
  rw [hE] at hcall href
  have Hcall := hide hcall
  have Href := hide href
  have N4 := hide n4
  have N5 := hide n5
  have N6 := hide n6
  have S1 := hide hS1
  have D1 := hide hW
  have HB3 := hide hb3
  have Hr := hide hr
  have Hh := hide h
  obtain ⟨z, hz⟩ : ∃ z, W1.heap.size = z := ⟨_, rfl⟩
  have hzw : w.heap.size ≤ z := hz ▸ hb3.size
  have hz3 : z = w.heap.size + 3 := by rw [← hz, ← hW1]; simp
  have Hz := hide hz
  clear hcall href n4 n5 n6 hS1 hD1 hb1 hb2 hb3 hr hok hoW hfit k4 k5 k6 hW h hE hstep hz
  go_enter Tryz.func33, Tryz.ntmps33
  go_wp2_with fail
  refine Hcall.out.mono ?_
  rintro e w2 ⟨⟨R, A2, c2, cl, rfl, hout2, hR, hR64, hR3⟩, hb2⟩
  rw [Hz.out] at hout2
  have m4 := N4.out.below hb2
  have m5 := N5.out.below hb2
  have d1 := m5.c 1 (v := .string tt) rfl
  have d9 := m5.c 9 (v := .int .i64 cq) rfl
  have d10 := m5.c 10 (v := .int .i64 lo.k) rfl
  have d11 := m5.c 11 (v := .int .i64 lo.n) rfl
  have d12 := m5.c 12 (v := .string lo.s) rfl
  have d13 := m5.c 13 (v := .int .i64 hi.k) rfl
  have d14 := m5.c 14 (v := .int .i64 hi.n) rfl
  have d15 := m5.c 15 (v := .string hi.s) rfl
  have d16 := m5.c 16 (v := .int .i64 lim) rfl
  have b0 := m4.c 0 (v := .slice A m c) rfl
  have Href2 := hide (Href.out w2 R hR hb2)
  have HB2 := hide hb2
  have HO2 := hide hout2
  have HR3 := hide hR3
  clear m4 m5 Hcall Href hb2 hout2 hR hR3
  go_wp2_with fail
  refine Href2.out.mono ?_
  rintro e w3 ⟨hg3, hb3⟩
  obtain ⟨QA, qc, rfl, hrd3⟩ := hg3
  have hsame := samerows_any A2 QA R.length c2 R.length qc R R w3 ((HO2.out.below hb3).read fun r hr => Nat.le_trans (HR3.out r hr) (by omega)) hrd3 (by omega)
  simp only [decide_true] at hsame
  have Hsame := hide hsame
  have HB3' := hide (below_then HB2.out HB2.out.size hb3)
  have HO3 := hide (HO2.out.below hb3)
  clear hb3 hrd3 hsame Href2 HB2 HO2 d0 d1 d6 d7 d8 d9 d10 d11 d12 d13 d14 d15 d16 b0
  go_wp2_with fail
  refine Hsame.out.mono ?_
  rintro e w4 ⟨rfl, hb4⟩
  have HBW := below_then HB3'.out HB3'.out.size hb4
  have G4 := hide (N4.out.below HBW)
  have G6 := hide (N6.out.below HBW)
  have HB4 := hide (below_then HB3.out HB3.out.size HBW)
  have HX4 := hide (HO3.out.below hb4).x
  obtain ⟨rn, hrn⟩ : ∃ rn, R.length = rn := ⟨_, rfl⟩
  rw [hrn] at HX4 hR64 ⊢
  have Hrn := hide hrn
  clear hb4 HBW HB3' HO3 Hsame hrn N4 N5 N6 HB3
  go_wp2_with fail
  go_loopw [19] (fun iv wr => ∃ i : Nat, i ≤ rn ∧ iv = .int .i64 i ∧ Hid (OutX z wr A2 cl rn R) ∧ Hid (Blk wr w.heap.size #[.slice A m c] 73) ∧ Hid (Blk wr (w.heap.size + 1 + 1) #[.slice none 0 0] 73) ∧ Hid (Below w.heap.size w wr)) (fun iv _ => rn - (intOf iv).toNat)
  case atStart => exact ⟨0, Nat.zero_le _, rfl, HX4, G4, G6, HB4⟩
  case round =>
    clear HX4 G4 G6 HB4
    obtain ⟨i, hi, rfl, HX, HG4, HG6, HB⟩ := hrel
    by_cases hlt : i < rn
    rotate_left
    · have hlt' : ¬ (i : Int) < (rn : Int) := by omega
      have b0 := HG4.out.c 0 (v := .slice A m c) rfl
      have a6 := HG6.out.c 0 (v := .slice none 0 0) rfl
      have f6 := HG6.out.fr 0
      have hz6 := HG6.out.set 0 (.slice A m c)
      have r6 := hz6.c 0 (v := .slice A m c) rfl
      have HS := hide (Hh.out.below HB.out)
      go_wp2_with fail
      have HBF := hide (HB.out.setCell (p := ⟨w.heap.size + 1 + 1, 0, none⟩) (by show w.heap.size ≤ w.heap.size + 1 + 1; omega) (.slice A m c))
      have HSF := hide (Hh.out.below HBF.out)
      refine bodyPost_ret (v := .tuple #[.agg #[.slice A m c], .bool true]) (by simp [results, Tryz.results33, go_sem, r6]) rfl ?_
      exact ⟨A, m, c, W, rfl, HSF.out.more (by omega), (D1.out.below HBF.out).congr fun b hb => (foot_same (HBF.out.block db hdb) b).1 hb, Hr.out, Upd.of_below HBF.out hdb⟩
    have hgi : R[i]? = some (R[i]'(by rw [Hrn.out]; exact hlt)) := List.getElem?_eq_getElem _
    obtain ⟨r, hr⟩ : ∃ r, (R[i]'(by rw [Hrn.out]; exact hlt)) = r := ⟨_, rfl⟩
    rw [hr] at hgi
    have hr3 : r.length ≤ 3 := HR3.out r (hr ▸ List.getElem_mem _)
    have Hgi := hide hgi
    have hlt' : (i : Int) < (rn : Int) := by omega
    have hi0 : ¬ (i : Int) < 0 := by omega
    clear hgi hr
    go_wp2_with fail
    go_loopw [20] (fun kv wz => ∃ k : Nat, k ≤ r.length ∧ kv = .int .i64 k ∧ Hid (OutX z wz A2 cl rn R) ∧ Hid (Blk wz w.heap.size #[.slice A m c] 73) ∧ Hid (Blk wz (w.heap.size + 1 + 1) #[.slice none 0 0] 73) ∧ Hid (Below w.heap.size w wz)) (fun kv _ => r.length - (intOf kv).toNat)
    case atStart => exact ⟨0, Nat.zero_le _, rfl, HX, HG4, HG6, HB⟩
    case round =>
      clear HX HG4 HG6 HB
      obtain ⟨k, hk, rfl, HX, HG4, HG6, HB⟩ := hrel
      obtain ⟨b, g, cj, xs, rfl, hc, hNg, ho⟩ := HX.out.at_ i hlt Hgi.out
      obtain ⟨rl, hrl⟩ : ∃ rl, r.length = rl := ⟨_, rfl⟩
      rw [hrl] at hk hc ho hr3 ⊢
      have hc' : C _ b i (.slice (some ⟨g, 0, none⟩) rl cj) := hc
      by_cases hkl : k < rl
      · have hkl' : (k : Int) < (rl : Int) := by omega
        have hk0 : ¬ (k : Int) < 0 := by omega
        have hxl := ho.1
        have e0 := (ho.cellAt (k * 3) (by omega)).trans (List.getElem?_eq_getElem (by omega))
        have e1 := (ho.cellAt (k * 3 + 1) (by omega)).trans (List.getElem?_eq_getElem (by omega))
        have e2 := (ho.cellAt (k * 3 + 2) (by omega)).trans (List.getElem?_eq_getElem (by omega))
        have f0 := ho.frozenAt (k * 3)
        have f1 := ho.frozenAt (k * 3 + 1)
        have f2 := ho.frozenAt (k * 3 + 2)
        have Ho := hide ho
        clear ho
        go_wp2_with fail
        have h1 := (Ho.out.stored (k * 3) (.int .i64 (-9))).1
        have h2 := (h1.stored (k * 3 + 1) (.int .i64 0)).1
        refine ⟨⟨k + 1, by omega, by go_num, hide (((HX.out.set Ho.out (k * 3) _).set h1 (k * 3 + 1) _).set h2 (k * 3 + 2) _), hide (((HG4.out.set_other (a := ⟨g, k * 3, none⟩) (by show w.heap.size ≠ g; omega) _).set_other (a := ⟨g, k * 3 + 1, none⟩) (by show w.heap.size ≠ g; omega) _).set_other (a := ⟨g, k * 3 + 2, none⟩) (by show w.heap.size ≠ g; omega) _), hide (((HG6.out.set_other (a := ⟨g, k * 3, none⟩) (by show w.heap.size + 1 + 1 ≠ g; omega) _).set_other (a := ⟨g, k * 3 + 1, none⟩) (by show w.heap.size + 1 + 1 ≠ g; omega) _).set_other (a := ⟨g, k * 3 + 2, none⟩) (by show w.heap.size + 1 + 1 ≠ g; omega) _), hide (((HB.out.setCell (p := ⟨g, k * 3, none⟩) (by show w.heap.size ≤ g; omega) _).setCell (p := ⟨g, k * 3 + 1, none⟩) (by show w.heap.size ≤ g; omega) _).setCell (p := ⟨g, k * 3 + 2, none⟩) (by show w.heap.size ≤ g; omega) _)⟩, by simp [intOf]; omega⟩
      have hke : k = rl := by omega
      have hkl' : ¬ (k : Int) < (rl : Int) := by omega
      go_wp2_with fail
      exact ⟨⟨i + 1, by omega, by go_num, HX, HG4, HG6, HB⟩, by simp [intOf]; omega⟩
theorem both_any {B0 db sb n : Nat} {w0 w : World} {D : List Tb} (h : St B0 w0 w db sb n D) (hn : n ≤ 50000) {A : Option Addr} {m c : Nat} {W : List Tb} (hW : DBR (Foot w db) w A m W) (hr : RefD D W) (ov : OpV) (cs : List Value) (hop : OpAt B0 w ov cs) (hfit : ov.fit 1048576) (hr4 : ov.row.length ≤ 4) :
    Calls Tryz.prog 33 #[.pointer (some ⟨db, 0, none⟩), .agg #[.slice A m c], .agg cs.toArray] w (Both B0 w0 w db sb (n + 8) (stepC D ov)) := by
  by_cases q1 : ov.k = 1
  · exact both_cre h hn hW hr ov cs hop hfit hr4 q1
  by_cases q2 : ov.k = 2
  · exact both_ins h hn hW hr ov cs hop hfit hr4 q2
  by_cases q3 : ov.k = 3
  · exact both_upd h hn hW hr ov cs hop hfit hr4 q3
  by_cases q4 : ov.k = 4
  · exact both_del h hn hW hr ov cs hop hfit hr4 q4
  by_cases q5 : ov.k = 5
  · exact both_get h hn hW hr ov cs hop hfit q5
  exact both_scan h hn hW hr ov cs hop hfit ⟨q1, q2, q3, q4, q5⟩
theorem DBR.apart {F F0 : Nat → Prop} {w : World} {A A0 : Option Addr} {n n0 c0 v : Nat} {W W0 : List Tb} (h : DBR F w A n W) (ho : OkW W) (hv : Blk w v #[.slice A0 n0 c0] 73) (h0 : DBR F0 w A0 n0 W0) : DBR (fun b => F b ∨ b = v) w A n W := by
  have key : ∀ {k : Nat} (_ : 2 ≤ k) {A : Option Addr} {n : Nat} {xs : List Value}, Rd w k A n xs ∧ NF F A n → Rd w k A n xs ∧ NF (fun b => F b ∨ b = v) A n := fun {k} hk {A} {n} {xs} h => ⟨h.1, by
    rcases h.2 with h1 | ⟨b, o, rfl, hb⟩
    · exact .inl h1
    rcases Nat.eq_zero_or_pos n with h1 | hp
    · exact .inl h1
    refine .inr ⟨b, o, rfl, fun hf => hf.elim hb fun e => ?_⟩
    subst e
    obtain ⟨b', o', hA, hc⟩ := h.1.some_ hp
    injection hA with hA
    injection hA with e1 e2 _
    subst e1; subst e2
    have hl : 2 ≤ xs.length := by rw [h.1.1]; exact Nat.le_trans hk (Nat.le_mul_of_pos_left k hp)
    have h3 := hc 1 (by omega)
    rw [hv.past (o + 1) (by simp), List.getElem?_eq_getElem (by omega)] at h3
    cases h3⟩
  obtain ⟨hl, xs, h1, h2⟩ := h
  refine ⟨hl, xs, key (by omega) h1, h2.mono fun T cs hT ht => ?_⟩
  obtain ⟨CA, cc, XA, xc, RA, rc, e, q1, q2, q3, h4, h5, sl, h6, h7, h8⟩ := ht
  refine ⟨CA, cc, XA, xc, RA, rc, e, q1, q2, q3, key (by omega) h4, key (by omega) h5, sl, ⟨h6.1, ?_⟩, h7, fun j r hj => by obtain ⟨Aj, cj, k1, k2, k3⟩ := h8 j r hj; exact ⟨Aj, cj, k1, key (by omega) k2, k3⟩⟩
  rcases h6.2 with h9 | ⟨b, o, rfl, hb⟩
  · exact .inl h9
  rcases Nat.eq_zero_or_pos T.rows.length with h9 | hp
  · exact .inl h9
  refine .inr ⟨b, o, rfl, fun hf => hf.elim hb fun e => ?_⟩
  subst e
  obtain ⟨b', o', hA, hc⟩ := h6.1.some_ hp
  injection hA with hA
  injection hA with e1 e2 _
  subst e1; subst e2
  have hsl := h6.1.1
  have hr0 : T.rows[0]? = some T.rows[0] := List.getElem?_eq_getElem hp
  obtain ⟨Aj, cj, k1, k2, k3⟩ := h8 0 _ hr0
  have hlen := (ho.pos hT _ (List.getElem_mem hp)).1
  have h10 := hc 0 (by omega)
  rw [k1] at h10
  rcases Nat.eq_zero_or_pos o with ho0 | hop
  · subst ho0
    have h11 : C w b 0 (.slice A0 n0 c0) := hv.c 0 rfl
    have h12 : some (Value.slice Aj T.rows[0].length cj) = some (.slice A0 n0 c0) := h10.symm.trans h11
    injection h12 with h12
    injection h12 with i1 i2 i3
    subst i1
    have hW0 := h0.1
    obtain ⟨b1, o1, _, _, _, _, _, _, hA1, hs1, _⟩ := h0.at_ 0 (by omega) (by omega)
    obtain ⟨b2, o2, hA2, hi2, _⟩ := Rd.col k2.1 0 hlen
    rw [hA1] at hA2
    injection hA2 with hA2
    injection hA2 with j1 j2 _
    subst j1; subst j2
    have := hs1.symm.trans hi2
    cases this
  rw [show o + 0 = o by omega, hv.past o (by simp; omega)] at h10
  cases h10
theorem RdS.set1 {B0 v k n : Nat} {w : World} {t : TypeId} {u0 : Value} {A : Option Addr} {xs : List Value} (h : RdS B0 w k A n xs) (hk : 2 ≤ k) (hv : Blk w v #[u0] t) (u : Value) : RdS B0 (w.setCell ⟨v, 0, none⟩ u) k A n xs := by
  rcases Nat.eq_zero_or_pos n with h0 | hp
  · exact ⟨⟨h.1.1, .inl h0⟩, .inl h0⟩
  obtain ⟨b, o, rfl, hc⟩ := h.1.some_ hp
  have hl : 2 ≤ xs.length := by rw [h.1.1]; exact Nat.le_trans hk (Nat.le_mul_of_pos_left k hp)
  have hne : b ≠ v := fun e => by
    subst e
    have h3 := hc 1 (by omega)
    rw [hv.past (o + 1) (by simp), List.getElem?_eq_getElem (by omega)] at h3
    cases h3
  have hs : (w.setCell ⟨v, 0, none⟩ u).heap[b]? = w.heap[b]? := Below.heap_setCell w ⟨v, 0, none⟩ u b hne
  refine ⟨⟨h.1.1, .inr ⟨b, o, rfl, fun j hj => (World.cell?_of_block (a := ⟨b, o + j, none⟩) hs).trans (hc j hj)⟩⟩, ?_⟩
  rcases h.2 with h0 | ⟨b', o', hA, hlt, hS⟩
  · omega
  injection hA with hA
  injection hA with e1 e2 _
  subst e1; subst e2
  refine .inr ⟨b, o, rfl, by simpa [World.setCell] using hlt, ?_⟩
  rcases hS with h1 | ⟨cs, T, fr, h1, h2⟩
  · exact .inl h1
  exact .inr ⟨cs, T, fr, hs.trans h1, h2⟩
theorem OpAt.set73 {B0 v : Nat} {w : World} {u0 : Value} {o : OpV} {cs : List Value} (h : OpAt B0 w o cs) (hv : Blk w v #[u0] 73) (u : Value) : OpAt B0 (w.setCell ⟨v, 0, none⟩ u) o cs := by
  obtain ⟨CA, cc, XA, xc, RA, rc, e, h1, h2, h3, h4, h5, h6⟩ := h
  exact ⟨CA, cc, XA, xc, RA, rc, e, h1, h2, h3, h4.set1 (by omega) hv u, h5.set1 (by omega) hv u, h6.set1 (by omega) hv u⟩
theorem OpsAt.set73 {B0 v m : Nat} {w : World} {u0 : Value} {l : List OpV} {A : Option Addr} (h : OpsAt B0 w A m l) (hv : Blk w v #[u0] 73) (u : Value) : OpsAt B0 (w.setCell ⟨v, 0, none⟩ u) A m l := by
  obtain ⟨hm, xs, hr, hE⟩ := h
  exact ⟨hm, xs, hr.set1 (by omega) hv u, hE.mono fun o cs _ ho => ho.set73 hv u⟩
theorem DBR.set73 {F : Nat → Prop} {w : World} {A A0 : Option Addr} {n n0 c0 v : Nat} {W W0 : List Tb} (h : DBR F w A n W) (ho : OkW W) (hv : Blk w v #[.slice A0 n0 c0] 73) {F0 : Nat → Prop} (h0 : DBR F0 w A0 n0 W0) (u : Value) : DBR F (w.setCell ⟨v, 0, none⟩ u) A n W :=
  ((h.apart ho hv h0).movF fun b _ hf => Below.heap_setCell w ⟨v, 0, none⟩ u b fun e => hf (.inr e)).congr fun b hb => .inl hb
theorem ns_eq {D W : List Tb} {ns : List ByteArray} (hr : RefD D W) (hn : NamesL D ns) : ns = namesD W :=
  srt_ext (f := fun x => x.data.toList) hn.srt hr.nm.srt fun x => by rw [hn.mem, hr.nm.mem]
section
variable {P : Program} {ops : Array Oper} {Q : Exit → Act → World → Prop} {S : World → Prop}
theorem wpAnyH_yield {i : Nat} {oi : Oper} {v : Value} {n : Nat} {listed : Array Bool} {a : Act} {w : World} (hi : ops[i]? = some oi)
    (hs : Region.noSelect ops = true) (hf : Region.free .any ops listed i = true) (hr : (Region.ready .any ops listed).contains i = true)
    (hQ : ∀ c a w, Q (.panic c) (a.put oi.dst v) w → Q (.panic c) a w) (hw : Region.wanted oi (yielded ops a.tmps) = true) (hS : S w)
    (hy : ∀ w, S w → (execOp a.eval oi).run P w = .ok (.value v) w)
    (h : wpAnyH P .any ops Q S n (listed.setIfInBounds i true) (a.put oi.dst v) w) : wpAnyH P .any ops Q S (n + 1) listed a w :=
  wpAnyH_take hi hs hf hr hQ (.inl ⟨hw, hy⟩) hS h
theorem wpAnyH_one {i : Nat} {o : Oper} {n : Nat} {listed : Array Bool} {a : Act} {w : World} (hr : Region.ready .any ops listed = [i]) (ho : ops[i]? = some o) (hw : Region.wanted o (yielded ops a.tmps) = true)
    (h : ∀ K : Act → World → Prop, (∀ a w, S w → wpAnyH P .any ops Q S n (listed.setIfInBounds i true) a w → K a w) → o.wp P a w K Q) : wpAnyH P .any ops Q S (n + 1) listed a w := by
  refine ⟨fun h0 => (by rw [hr] at h0; cases h0), fun j hj => ?_⟩
  rw [hr] at hj
  have : j = i := by simpa using hj
  subst this
  unfold wpOp
  simp only [ho, hw, if_true]
  exact .inl (h _ fun a w h1 h2 => ⟨h1, h2⟩)
end
theorem run_field35 (w : World) (v0 v1 : Value) (s : ByteArray) (CA XA : Option Addr) (cn cc xn xc : Nat) (v5 v6 v7 v8 v9 v10 v11 v12 v13 v14 v15 v16 : Value) :
    (Instr.field 35 (.agg #[v0, v1, .string s, .slice CA cn cc, .slice XA xn xc, v5, v6, v7, v8, v9, v10, v11, v12, v13, v14, v15, v16]) 2).run Tryz.prog w = .ok (.agg #[.string s, .slice CA cn cc, .slice XA xn xc]) w := by
  kernel_rfl
theorem oper_field35 {w : World} {o : Oper} {a : Act} {K : Act → World → Prop} {Q : Exit → Act → World → Prop} {x : Operand} {v0 v1 : Value} {s : ByteArray} {CA XA : Option Addr} {cn cc xn xc : Nat} {v5 v6 v7 v8 v9 v10 v11 v12 v13 v14 v15 v16 : Value} (ho : o.op = .field 35 x 2)
    (hx : a.eval x = .agg #[v0, v1, .string s, .slice CA cn cc, .slice XA xn xc, v5, v6, v7, v8, v9, v10, v11, v12, v13, v14, v15, v16]) (h : K (a.put o.dst (.agg #[.string s, .slice CA cn cc, .slice XA xn xc])) w) : o.wp Tryz.prog a w K Q := by
  have h1 := run_field35 w v0 v1 s CA XA cn cc xn xc v5 v6 v7 v8 v9 v10 v11 v12 v13 v14 v15 v16
  unfold Oper.wp execOp
  simp only [ho, hx, h1, Sem.run_bind, Result.andThen_ok, Sem.run_pure]
  exact h
theorem no_Z {D : List Tb} (h : Ok D) : findT D ⟨#[90]⟩ 0 = none := findT_no fun j U hU e => by
  have h1 := (right_facts (h.right j U hU)).nm
  rw [e] at h1
  exact absurd h1 (by decide +kernel)
theorem RefD.at_ {D W : List Tb} (h : RefD D W) {j : Nat} {U : Tb} (hU : W[j]? = some U) : ∃ i T, findT D U.s.name 0 = some (i, T) ∧ RefT T U := by
  rcases h.find U.s.name with ⟨_, h2⟩ | ⟨i, T, k, X, h1, h2, h3⟩
  · exact absurd rfl (findT_none h2 j U hU)
  obtain ⟨hT, hn⟩ := findT_at h1
  exact ⟨i, T, h1, h.ref i j T U hT hU hn.symm⟩
end Go.Proofs.YtekokogmnhlchaaGreatDoor
