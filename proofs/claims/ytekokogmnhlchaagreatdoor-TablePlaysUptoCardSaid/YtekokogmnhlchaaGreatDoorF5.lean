import Derived.Test.YtekokogmnhlchaaGreatDoorF4
import Derived.Test.YtekokogmnhlchaaGreatDoorD4
set_option linter.unusedSimpArgs false
set_option linter.unusedVariables false
set_option linter.unusedSectionVars false
namespace Go.Proofs.YtekokogmnhlchaaGreatDoor
open Go.RowKit
def Both (B0 : Nat) (w0 w : World) (db sb n : Nat) (D : List Tb) (e : Ending) (w' : World) : Prop := ∃ A' m' c' W', e = .returned (.tuple #[.agg #[.slice A' m' c'], .bool true]) ∧ St B0 w0 w' db sb n D ∧ DBR (Foot w' db) w' A' m' W' ∧ RefD D W' ∧ Upd db w w'
set_option maxHeartbeats 6400000 in
set_option maxRecDepth 1000000 in
theorem both_cre {B0 db sb n : Nat} {w0 w : World} {D : List Tb} (h : St B0 w0 w db sb n D) (hn : n ≤ 50000) {A : Option Addr} {m c : Nat} {W : List Tb} (hW : DBR (Foot w db) w A m W) (hr : RefD D W) (ov : OpV) (cs : List Value) (hop : OpAt B0 w ov cs) (hfit : ov.fit 1048576) (hr4 : ov.row.length ≤ 4) (hk : ov.k = 1) :
    Calls Tryz.prog 33 #[.pointer (some ⟨db, 0, none⟩), .agg #[.slice A m c], .agg cs.toArray] w (Both B0 w0 w db sb (n + 8) (stepC D ov)) := by
  obtain ⟨kk, tt, ss, rr, ky, cq, lo, hi, lim⟩ := ov
  obtain ⟨CA, cc, XA, xc, RA, rc, rfl, k1, k2, k3, k4, k5, k6⟩ := hop
  dsimp only at k1 k2 k3 k4 k5 k6 hk hr4 ⊢
  subst hk
  have hok := h.ok
  have hoW := hr.okW hok
  have hm4 : m ≤ 4 := hW.1 ▸ hoW.n4
  have hb1 := (Below.refl w.heap.size w).alloc (Nat.le_refl _) (.cells #[.slice A m c] 73)
  have hb2 := hb1.alloc hb1.size (.cells #[.int .i64 1, .string tt, .string ss.name, .slice CA ss.cols.length cc, .slice XA ss.ixs.length xc, .slice RA rr.length rc, .int .i64 ky.k, .int .i64 ky.n, .string ky.s, .int .i64 cq, .int .i64 lo.k, .int .i64 lo.n, .string lo.s, .int .i64 hi.k, .int .i64 hi.n, .string hi.s, .int .i64 lim] 35)
  have hb3 := hb2.alloc hb2.size (.cells #[.slice none 0 0] 73)
  have n4 := ((Blk.new w #[.slice A m c] 73).alloc (.cells #[.int .i64 1, .string tt, .string ss.name, .slice CA ss.cols.length cc, .slice XA ss.ixs.length xc, .slice RA rr.length rc, .int .i64 ky.k, .int .i64 ky.n, .string ky.s, .int .i64 cq, .int .i64 lo.k, .int .i64 lo.n, .string lo.s, .int .i64 hi.k, .int .i64 hi.n, .string hi.s, .int .i64 lim] 35)).alloc (.cells #[.slice none 0 0] 73)
  have n5 := (Blk.new (w.alloc (.cells #[.slice A m c] 73)) #[.int .i64 1, .string tt, .string ss.name, .slice CA ss.cols.length cc, .slice XA ss.ixs.length xc, .slice RA rr.length rc, .int .i64 ky.k, .int .i64 ky.n, .string ky.s, .int .i64 cq, .int .i64 lo.k, .int .i64 lo.n, .string lo.s, .int .i64 hi.k, .int .i64 hi.n, .string hi.s, .int .i64 lim] 35).alloc (.cells #[.slice none 0 0] 73)
  have n6 := Blk.new ((w.alloc (.cells #[.slice A m c] 73)).alloc (.cells #[.int .i64 1, .string tt, .string ss.name, .slice CA ss.cols.length cc, .slice XA ss.ixs.length xc, .slice RA rr.length rc, .int .i64 ky.k, .int .i64 ky.n, .string ky.s, .int .i64 cq, .int .i64 lo.k, .int .i64 lo.n, .string lo.s, .int .i64 hi.k, .int .i64 hi.n, .string hi.s, .int .i64 lim] 35)) #[.slice none 0 0] 73
  rw [show (w.alloc (.cells #[.slice A m c] 73)).heap.size = w.heap.size + 1 by simp] at n5
  rw [show ((w.alloc (.cells #[.slice A m c] 73)).alloc (.cells #[.int .i64 1, .string tt, .string ss.name, .slice CA ss.cols.length cc, .slice XA ss.ixs.length xc, .slice RA rr.length rc, .int .i64 ky.k, .int .i64 ky.n, .string ky.s, .int .i64 cq, .int .i64 lo.k, .int .i64 lo.n, .string lo.s, .int .i64 hi.k, .int .i64 hi.n, .string hi.s, .int .i64 lim] 35)).heap.size = w.heap.size + 1 + 1 by simp] at n6
  have hz : (((w.alloc (.cells #[.slice A m c] 73)).alloc (.cells #[.int .i64 1, .string tt, .string ss.name, .slice CA ss.cols.length cc, .slice XA ss.ixs.length xc, .slice RA rr.length rc, .int .i64 ky.k, .int .i64 ky.n, .string ky.s, .int .i64 cq, .int .i64 lo.k, .int .i64 lo.n, .string lo.s, .int .i64 hi.k, .int .i64 hi.n, .string hi.s, .int .i64 lim] 35)).alloc (.cells #[.slice none 0 0] 73)).heap.size = w.heap.size + 3 := by simp
  obtain ⟨W1, hW1⟩ : ∃ W1, ((w.alloc (.cells #[.slice A m c] 73)).alloc (.cells #[.int .i64 1, .string tt, .string ss.name, .slice CA ss.cols.length cc, .slice XA ss.ixs.length xc, .slice RA rr.length rc, .int .i64 ky.k, .int .i64 ky.n, .string ky.s, .int .i64 cq, .int .i64 lo.k, .int .i64 lo.n, .string lo.s, .int .i64 hi.k, .int .i64 hi.n, .string hi.s, .int .i64 lim] 35)).alloc (.cells #[.slice none 0 0] 73) = W1 := ⟨_, rfl⟩
  rw [hW1] at n4 n5 n6 hb3 hz
  have hdb := h.lt
  have hS1 := h.below hb3
  have hF1 : ∀ b, Foot W1 db b ↔ Foot w db b := foot_same (hb3.block db hdb)
  have hD1 := (hW.more).below hb3
  have hB0 : B0 ≤ w.heap.size := h.le
  have h3 : 3 ≤ w.heap.size := Nat.le_trans (by obtain ⟨L, hd, _⟩ := h.ex; exact hd.b0) hB0
  have K4 := k4.below hb3
  have K5 := k5.below hb3
  have K6 := k6.below hb3
  have hmk : n ≤ 50000 := hn
  have hcall := hS1.creA (s := ss) (sv := (.agg #[.string ss.name, .slice CA ss.cols.length cc, .slice XA ss.ixs.length xc])) hmk (hfit.s.small (by omega)) ⟨_, _, _, _, rfl, k1, k2, K4.rd, K5.rd⟩
  have d0 := n5.c 0 (v := .int .i64 1) rfl
  have d1 := n5.c 1 (v := .string tt) rfl
  have d2 := n5.c 2 (v := .string ss.name) rfl
  have d3 := n5.c 3 (v := .slice CA ss.cols.length cc) rfl
  have d4 := n5.c 4 (v := .slice XA ss.ixs.length xc) rfl
  have d5 := n5.c 5 (v := .slice RA rr.length rc) rfl
  have d6 := n5.c 6 (v := .int .i64 ky.k) rfl
  have d7 := n5.c 7 (v := .int .i64 ky.n) rfl
  have d8 := n5.c 8 (v := .string ky.s) rfl
  have Hcall := hide hcall
  have N4 := hide n4
  have N5 := hide n5
  have N6 := hide n6
  have S1 := hide hS1
  have D1 := hide hD1
  have F1 := hide hF1
  have HB3 := hide hb3
  have Hr := hide hr
  have Hok := hide hok
  have HoW := hide hoW
  have Hfit := hide hfit
  have Hz := hide hz
  have HK4 := hide K4
  have HK5 := hide K5
  have HK6 := hide K6
  clear hcall n4 n5 n6 hS1 hD1 hF1 hb1 hb2 hb3 hr hok hoW hfit hz k4 k5 k6 K4 K5 K6 hW h
  go_enter Tryz.func33, Tryz.ntmps33
  go_wp2_with fail
  refine Hcall.out.mono ?_
  rintro e w2 ⟨rfl, hs2, hu2⟩
  have m4 := S1.out.blk N4.out (by decide) (by decide) hu2
  have m5 := S1.out.blk N5.out (by decide) (by decide) hu2
  have m6 := S1.out.blk N6.out (by decide) (by decide) hu2
  have hsz := hu2.size
  have hD2 : DBR (fun b => Foot w2 db b ∨ (w.heap.size ≤ b ∧ b < W1.heap.size)) w2 A m W := ((D1.out.movF (w' := w2) fun b hb hf => hu2.same b hb fun hf' => hf (.inl ((F1.out b).1 hf')))).congr fun b hb => by
    rcases hb with hb | hb
    · rcases hu2.foot b hb with h1 | h1
      · exact .inl ((F1.out b).1 h1)
      exact .inr (Nat.le_trans HB3.out.size h1)
    exact .inr hb.1
  have hFo : ∀ b, (Foot w2 db b ∨ (w.heap.size ≤ b ∧ b < W1.heap.size)) → b < w2.heap.size := fun b hb => by
    rcases hb with hb | hb
    · exact foot_lt hs2 b hb
    omega
  have hR4 := S1.out.rds HK4.out hu2
  have hR5 := S1.out.rds HK5.out hu2
  have hR6 := S1.out.rds HK6.out hu2
  have hboth := Hr.out.cre Hok.out ss
  have href := cre15_any A m c W ss (.agg #[.string ss.name, .slice CA ss.cols.length cc, .slice XA ss.ixs.length xc]) w2 hD2 hFo HoW.out ⟨_, _, _, _, rfl, k1, k2, hR4.rd, hR5.rd⟩ (Nat.le_trans Hfit.out.s.1 (by omega)) (fun c hc => Nat.le_trans (Hfit.out.s.2.1 c hc) (by omega)) (Nat.le_trans Hfit.out.s.2.2.1 (by omega)) (Nat.le_trans Hfit.out.s.2.2.2 (by omega))
  rw [hboth.1] at href
  have Href := hide href
  have S2 := hide hs2
  have U2 := hide hu2
  have M4 := hide m4
  have M6 := hide m6
  have HRD := hide hboth.2
  have d0 := m5.c 0 (v := .int .i64 1) rfl
  have d1 := m5.c 1 (v := .string tt) rfl
  have d2 := m5.c 2 (v := .string ss.name) rfl
  have d3 := m5.c 3 (v := .slice CA ss.cols.length cc) rfl
  have d4 := m5.c 4 (v := .slice XA ss.ixs.length xc) rfl
  have d5 := m5.c 5 (v := .slice RA rr.length rc) rfl
  have d6 := m5.c 6 (v := .int .i64 ky.k) rfl
  have d7 := m5.c 7 (v := .int .i64 ky.n) rfl
  have d8 := m5.c 8 (v := .string ky.s) rfl
  have b0 := m4.c 0 (v := .slice A m c) rfl
  clear hs2 hu2 m4 m5 m6 hD2 hFo hR4 hR5 hR6 hboth href Hcall hsz
  go_wp2_with fail
  refine Href.out.mono ?_
  rintro e w3 hdb3
  obtain ⟨A', m', c', rfl, hdr, hb23⟩ := hdb3
  have g4 := M4.out.below hb23
  have g6 := M6.out.below hb23
  have a0 := g4.c 0 (v := .slice A m c) rfl
  have f0 := g4.fr 0
  have r4 := g4.set 0 (.slice A' m' c')
  have a1 := r4.c 0 (v := .slice A' m' c') rfl
  have g6' := g6.set_other (a := ⟨w.heap.size, 0, none⟩) (by show w.heap.size + 1 + 1 ≠ w.heap.size; omega) (.slice A' m' c')
  have a6 := g6'.c 0 (v := .slice none 0 0) rfl
  have f6 := g6'.fr 0
  have r6 := (g6'.set 0 (.slice A' m' c')).c 0 (v := .slice A' m' c') rfl
  have hdull1 : ∀ v ∈ (#[Value.slice A m c] : Array Value).toList, Dull v := by intro v hv; simp at hv; subst hv; trivial
  have hdull2 : ∀ v ∈ (#[Value.slice none 0 0] : Array Value).toList, Dull v := by intro v hv; simp at hv; subst hv; trivial
  have s3 := S2.out.below hb23
  have s4 := s3.setc g4 hdull1 (by decide) (by decide) hB0 h3 0 (.slice A' m' c')
  have s5 := s4.setc g6' hdull2 (by decide) (by decide) (by omega) (by omega) 0 (.slice A' m' c')
  have hdbne : w.heap.size ≠ db := by omega
  have hdbne2 : w.heap.size + 1 + 1 ≠ db := by omega
  have u3 := ((((Upd.of_below HB3.out hdb).trans U2.out).trans (Upd.of_below hb23 S2.out.lt)).setc (g := w.heap.size) (Nat.le_refl _) hdbne 0 (.slice A' m' c')).setc (g := w.heap.size + 1 + 1) (by omega) hdbne2 0 (.slice A' m' c')
  have hfoot : ∀ b, Foot ((w3.setCell ⟨w.heap.size, 0, none⟩ (.slice A' m' c')).setCell ⟨w.heap.size + 1 + 1, 0, none⟩ (.slice A' m' c')) db b ↔ Foot w2 db b := foot_same (((Below.heap_setCell _ ⟨w.heap.size + 1 + 1, 0, none⟩ _ db (fun e => hdbne2 e.symm)).trans (Below.heap_setCell _ ⟨w.heap.size, 0, none⟩ _ db (fun e => hdbne e.symm))).trans (hb23.block db S2.out.lt))
  have hz := Hz.out
  have hd5 := (hdr.movF (w' := (w3.setCell ⟨w.heap.size, 0, none⟩ (.slice A' m' c')).setCell ⟨w.heap.size + 1 + 1, 0, none⟩ (.slice A' m' c')) fun b hb hf => (Below.heap_setCell _ ⟨w.heap.size + 1 + 1, 0, none⟩ _ b (by show b ≠ w.heap.size + 1 + 1; intro e; exact hf (.inr (by omega)))).trans (Below.heap_setCell _ ⟨w.heap.size, 0, none⟩ _ b (by show b ≠ w.heap.size; intro e; exact hf (.inr (by omega))))).congr (F' := Foot ((w3.setCell ⟨w.heap.size, 0, none⟩ (.slice A' m' c')).setCell ⟨w.heap.size + 1 + 1, 0, none⟩ (.slice A' m' c')) db) fun b hb => .inl ((hfoot b).1 hb)
  have S5 := hide s5
  have U5 := hide u3
  have D5 := hide hd5
  clear s3 s4 s5 u3 hd5 hfoot hdr hb23 g4 g6 r4 g6' hdull1 hdull2 hz b0 d0 d1 d2 d3 d4 d5 d6 d7 d8
  go_wp2_with fail
  refine bodyPost_ret (v := .tuple #[.agg #[.slice A' m' c'], .bool true]) (by simp [results, Tryz.results33, go_sem, r6]) rfl ?_
  refine ⟨A', m', c', _, rfl, ?_, D5.out, ?_, U5.out⟩
  · rw [show stepC D ⟨1, tt, ss, rr, ky, cq, lo, hi, lim⟩ = creD D ss from rfl]; exact S5.out
  rw [show stepC D ⟨1, tt, ss, rr, ky, cq, lo, hi, lim⟩ = creD D ss from rfl]; exact HRD.out
set_option maxHeartbeats 6400000 in
set_option maxRecDepth 1000000 in
theorem both_ins {B0 db sb n : Nat} {w0 w : World} {D : List Tb} (h : St B0 w0 w db sb n D) (hn : n ≤ 50000) {A : Option Addr} {m c : Nat} {W : List Tb} (hW : DBR (Foot w db) w A m W) (hr : RefD D W) (ov : OpV) (cs : List Value) (hop : OpAt B0 w ov cs) (hfit : ov.fit 1048576) (hr4 : ov.row.length ≤ 4) (hk : ov.k = 2) :
    Calls Tryz.prog 33 #[.pointer (some ⟨db, 0, none⟩), .agg #[.slice A m c], .agg cs.toArray] w (Both B0 w0 w db sb (n + 8) (stepC D ov)) := by
  obtain ⟨kk, tt, ss, rr, ky, cq, lo, hi, lim⟩ := ov
  obtain ⟨CA, cc, XA, xc, RA, rc, rfl, k1, k2, k3, k4, k5, k6⟩ := hop
  dsimp only at k1 k2 k3 k4 k5 k6 hk hr4 ⊢
  subst hk
  have hok := h.ok
  have hoW := hr.okW hok
  have hm4 : m ≤ 4 := hW.1 ▸ hoW.n4
  have hb1 := (Below.refl w.heap.size w).alloc (Nat.le_refl _) (.cells #[.slice A m c] 73)
  have hb2 := hb1.alloc hb1.size (.cells #[.int .i64 2, .string tt, .string ss.name, .slice CA ss.cols.length cc, .slice XA ss.ixs.length xc, .slice RA rr.length rc, .int .i64 ky.k, .int .i64 ky.n, .string ky.s, .int .i64 cq, .int .i64 lo.k, .int .i64 lo.n, .string lo.s, .int .i64 hi.k, .int .i64 hi.n, .string hi.s, .int .i64 lim] 35)
  have hb3 := hb2.alloc hb2.size (.cells #[.slice none 0 0] 73)
  have n4 := ((Blk.new w #[.slice A m c] 73).alloc (.cells #[.int .i64 2, .string tt, .string ss.name, .slice CA ss.cols.length cc, .slice XA ss.ixs.length xc, .slice RA rr.length rc, .int .i64 ky.k, .int .i64 ky.n, .string ky.s, .int .i64 cq, .int .i64 lo.k, .int .i64 lo.n, .string lo.s, .int .i64 hi.k, .int .i64 hi.n, .string hi.s, .int .i64 lim] 35)).alloc (.cells #[.slice none 0 0] 73)
  have n5 := (Blk.new (w.alloc (.cells #[.slice A m c] 73)) #[.int .i64 2, .string tt, .string ss.name, .slice CA ss.cols.length cc, .slice XA ss.ixs.length xc, .slice RA rr.length rc, .int .i64 ky.k, .int .i64 ky.n, .string ky.s, .int .i64 cq, .int .i64 lo.k, .int .i64 lo.n, .string lo.s, .int .i64 hi.k, .int .i64 hi.n, .string hi.s, .int .i64 lim] 35).alloc (.cells #[.slice none 0 0] 73)
  have n6 := Blk.new ((w.alloc (.cells #[.slice A m c] 73)).alloc (.cells #[.int .i64 2, .string tt, .string ss.name, .slice CA ss.cols.length cc, .slice XA ss.ixs.length xc, .slice RA rr.length rc, .int .i64 ky.k, .int .i64 ky.n, .string ky.s, .int .i64 cq, .int .i64 lo.k, .int .i64 lo.n, .string lo.s, .int .i64 hi.k, .int .i64 hi.n, .string hi.s, .int .i64 lim] 35)) #[.slice none 0 0] 73
  rw [show (w.alloc (.cells #[.slice A m c] 73)).heap.size = w.heap.size + 1 by simp] at n5
  rw [show ((w.alloc (.cells #[.slice A m c] 73)).alloc (.cells #[.int .i64 2, .string tt, .string ss.name, .slice CA ss.cols.length cc, .slice XA ss.ixs.length xc, .slice RA rr.length rc, .int .i64 ky.k, .int .i64 ky.n, .string ky.s, .int .i64 cq, .int .i64 lo.k, .int .i64 lo.n, .string lo.s, .int .i64 hi.k, .int .i64 hi.n, .string hi.s, .int .i64 lim] 35)).heap.size = w.heap.size + 1 + 1 by simp] at n6
  have hz : (((w.alloc (.cells #[.slice A m c] 73)).alloc (.cells #[.int .i64 2, .string tt, .string ss.name, .slice CA ss.cols.length cc, .slice XA ss.ixs.length xc, .slice RA rr.length rc, .int .i64 ky.k, .int .i64 ky.n, .string ky.s, .int .i64 cq, .int .i64 lo.k, .int .i64 lo.n, .string lo.s, .int .i64 hi.k, .int .i64 hi.n, .string hi.s, .int .i64 lim] 35)).alloc (.cells #[.slice none 0 0] 73)).heap.size = w.heap.size + 3 := by simp
  obtain ⟨W1, hW1⟩ : ∃ W1, ((w.alloc (.cells #[.slice A m c] 73)).alloc (.cells #[.int .i64 2, .string tt, .string ss.name, .slice CA ss.cols.length cc, .slice XA ss.ixs.length xc, .slice RA rr.length rc, .int .i64 ky.k, .int .i64 ky.n, .string ky.s, .int .i64 cq, .int .i64 lo.k, .int .i64 lo.n, .string lo.s, .int .i64 hi.k, .int .i64 hi.n, .string hi.s, .int .i64 lim] 35)).alloc (.cells #[.slice none 0 0] 73) = W1 := ⟨_, rfl⟩
  rw [hW1] at n4 n5 n6 hb3 hz
  have hdb := h.lt
  have hS1 := h.below hb3
  have hF1 : ∀ b, Foot W1 db b ↔ Foot w db b := foot_same (hb3.block db hdb)
  have hD1 := (hW.more).below hb3
  have hB0 : B0 ≤ w.heap.size := h.le
  have h3 : 3 ≤ w.heap.size := Nat.le_trans (by obtain ⟨L, hd, _⟩ := h.ex; exact hd.b0) hB0
  have K4 := k4.below hb3
  have K5 := k5.below hb3
  have K6 := k6.below hb3
  have hmk : n ≤ 50000 := hn
  have hcall := hS1.ins (nm := tt) (row := rr) (A := RA) (m := rr.length) (c := rc) hmk (Nat.le_trans hfit.tb (by omega)) K6 rfl (fun v hv => (hfit.row.1 v hv).2.1) (fun v hv => Nat.le_trans (hfit.row.1 v hv).2.2 (by omega))
  have d0 := n5.c 0 (v := .int .i64 2) rfl
  have d1 := n5.c 1 (v := .string tt) rfl
  have d2 := n5.c 2 (v := .string ss.name) rfl
  have d3 := n5.c 3 (v := .slice CA ss.cols.length cc) rfl
  have d4 := n5.c 4 (v := .slice XA ss.ixs.length xc) rfl
  have d5 := n5.c 5 (v := .slice RA rr.length rc) rfl
  have d6 := n5.c 6 (v := .int .i64 ky.k) rfl
  have d7 := n5.c 7 (v := .int .i64 ky.n) rfl
  have d8 := n5.c 8 (v := .string ky.s) rfl
  have Hcall := hide hcall
  have N4 := hide n4
  have N5 := hide n5
  have N6 := hide n6
  have S1 := hide hS1
  have D1 := hide hD1
  have F1 := hide hF1
  have HB3 := hide hb3
  have Hr := hide hr
  have Hok := hide hok
  have HoW := hide hoW
  have Hfit := hide hfit
  have Hz := hide hz
  have HK4 := hide K4
  have HK5 := hide K5
  have HK6 := hide K6
  clear hcall n4 n5 n6 hS1 hD1 hF1 hb1 hb2 hb3 hr hok hoW hfit hz k4 k5 k6 K4 K5 K6 hW h
  go_enter Tryz.func33, Tryz.ntmps33
  go_wp2_with fail
  refine Hcall.out.mono ?_
  rintro e w2 ⟨rfl, hs2, hu2⟩
  have m4 := S1.out.blk N4.out (by decide) (by decide) hu2
  have m5 := S1.out.blk N5.out (by decide) (by decide) hu2
  have m6 := S1.out.blk N6.out (by decide) (by decide) hu2
  have hsz := hu2.size
  have hD2 : DBR (fun b => Foot w2 db b ∨ (w.heap.size ≤ b ∧ b < W1.heap.size)) w2 A m W := ((D1.out.movF (w' := w2) fun b hb hf => hu2.same b hb fun hf' => hf (.inl ((F1.out b).1 hf')))).congr fun b hb => by
    rcases hb with hb | hb
    · rcases hu2.foot b hb with h1 | h1
      · exact .inl ((F1.out b).1 h1)
      exact .inr (Nat.le_trans HB3.out.size h1)
    exact .inr hb.1
  have hFo : ∀ b, (Foot w2 db b ∨ (w.heap.size ≤ b ∧ b < W1.heap.size)) → b < w2.heap.size := fun b hb => by
    rcases hb with hb | hb
    · exact foot_lt hs2 b hb
    omega
  have hR4 := S1.out.rds HK4.out hu2
  have hR5 := S1.out.rds HK5.out hu2
  have hR6 := S1.out.rds HK6.out hu2
  have hboth := Hr.out.ins Hok.out tt rr (fun v hv => (Hfit.out.row.1 v hv).2.1)
  have href := ins15_any A m c W tt RA rr.length rc rr w2 hD2 hFo HoW.out hR6.rd rfl (fun v hv => (Hfit.out.row.1 v hv).2.1) (fun v hv => Nat.le_trans (Hfit.out.row.1 v hv).2.2 (by omega)) (by omega)
  rw [hboth.1] at href
  have Href := hide href
  have S2 := hide hs2
  have U2 := hide hu2
  have M4 := hide m4
  have M6 := hide m6
  have HRD := hide hboth.2
  have d0 := m5.c 0 (v := .int .i64 2) rfl
  have d1 := m5.c 1 (v := .string tt) rfl
  have d2 := m5.c 2 (v := .string ss.name) rfl
  have d3 := m5.c 3 (v := .slice CA ss.cols.length cc) rfl
  have d4 := m5.c 4 (v := .slice XA ss.ixs.length xc) rfl
  have d5 := m5.c 5 (v := .slice RA rr.length rc) rfl
  have d6 := m5.c 6 (v := .int .i64 ky.k) rfl
  have d7 := m5.c 7 (v := .int .i64 ky.n) rfl
  have d8 := m5.c 8 (v := .string ky.s) rfl
  have b0 := m4.c 0 (v := .slice A m c) rfl
  clear hs2 hu2 m4 m5 m6 hD2 hFo hR4 hR5 hR6 hboth href Hcall hsz
  go_wp2_with fail
  refine Href.out.mono ?_
  rintro e w3 hdb3
  obtain ⟨A', m', c', rfl, hdr, hb23⟩ := hdb3
  have g4 := M4.out.below hb23
  have g6 := M6.out.below hb23
  have a0 := g4.c 0 (v := .slice A m c) rfl
  have f0 := g4.fr 0
  have r4 := g4.set 0 (.slice A' m' c')
  have a1 := r4.c 0 (v := .slice A' m' c') rfl
  have g6' := g6.set_other (a := ⟨w.heap.size, 0, none⟩) (by show w.heap.size + 1 + 1 ≠ w.heap.size; omega) (.slice A' m' c')
  have a6 := g6'.c 0 (v := .slice none 0 0) rfl
  have f6 := g6'.fr 0
  have r6 := (g6'.set 0 (.slice A' m' c')).c 0 (v := .slice A' m' c') rfl
  have hdull1 : ∀ v ∈ (#[Value.slice A m c] : Array Value).toList, Dull v := by intro v hv; simp at hv; subst hv; trivial
  have hdull2 : ∀ v ∈ (#[Value.slice none 0 0] : Array Value).toList, Dull v := by intro v hv; simp at hv; subst hv; trivial
  have s3 := S2.out.below hb23
  have s4 := s3.setc g4 hdull1 (by decide) (by decide) hB0 h3 0 (.slice A' m' c')
  have s5 := s4.setc g6' hdull2 (by decide) (by decide) (by omega) (by omega) 0 (.slice A' m' c')
  have hdbne : w.heap.size ≠ db := by omega
  have hdbne2 : w.heap.size + 1 + 1 ≠ db := by omega
  have u3 := ((((Upd.of_below HB3.out hdb).trans U2.out).trans (Upd.of_below hb23 S2.out.lt)).setc (g := w.heap.size) (Nat.le_refl _) hdbne 0 (.slice A' m' c')).setc (g := w.heap.size + 1 + 1) (by omega) hdbne2 0 (.slice A' m' c')
  have hfoot : ∀ b, Foot ((w3.setCell ⟨w.heap.size, 0, none⟩ (.slice A' m' c')).setCell ⟨w.heap.size + 1 + 1, 0, none⟩ (.slice A' m' c')) db b ↔ Foot w2 db b := foot_same (((Below.heap_setCell _ ⟨w.heap.size + 1 + 1, 0, none⟩ _ db (fun e => hdbne2 e.symm)).trans (Below.heap_setCell _ ⟨w.heap.size, 0, none⟩ _ db (fun e => hdbne e.symm))).trans (hb23.block db S2.out.lt))
  have hz := Hz.out
  have hd5 := (hdr.movF (w' := (w3.setCell ⟨w.heap.size, 0, none⟩ (.slice A' m' c')).setCell ⟨w.heap.size + 1 + 1, 0, none⟩ (.slice A' m' c')) fun b hb hf => (Below.heap_setCell _ ⟨w.heap.size + 1 + 1, 0, none⟩ _ b (by show b ≠ w.heap.size + 1 + 1; intro e; exact hf (.inr (by omega)))).trans (Below.heap_setCell _ ⟨w.heap.size, 0, none⟩ _ b (by show b ≠ w.heap.size; intro e; exact hf (.inr (by omega))))).congr (F' := Foot ((w3.setCell ⟨w.heap.size, 0, none⟩ (.slice A' m' c')).setCell ⟨w.heap.size + 1 + 1, 0, none⟩ (.slice A' m' c')) db) fun b hb => .inl ((hfoot b).1 hb)
  have S5 := hide s5
  have U5 := hide u3
  have D5 := hide hd5
  clear s3 s4 s5 u3 hd5 hfoot hdr hb23 g4 g6 r4 g6' hdull1 hdull2 hz b0 d0 d1 d2 d3 d4 d5 d6 d7 d8
  go_wp2_with fail
  refine bodyPost_ret (v := .tuple #[.agg #[.slice A' m' c'], .bool true]) (by simp [results, Tryz.results33, go_sem, r6]) rfl ?_
  refine ⟨A', m', c', _, rfl, ?_, D5.out, ?_, U5.out⟩
  · rw [show stepC D ⟨2, tt, ss, rr, ky, cq, lo, hi, lim⟩ = insD D tt rr from rfl]; exact S5.out
  rw [show stepC D ⟨2, tt, ss, rr, ky, cq, lo, hi, lim⟩ = insD D tt rr from rfl]; exact HRD.out
set_option maxHeartbeats 6400000 in
set_option maxRecDepth 1000000 in
theorem both_upd {B0 db sb n : Nat} {w0 w : World} {D : List Tb} (h : St B0 w0 w db sb n D) (hn : n ≤ 50000) {A : Option Addr} {m c : Nat} {W : List Tb} (hW : DBR (Foot w db) w A m W) (hr : RefD D W) (ov : OpV) (cs : List Value) (hop : OpAt B0 w ov cs) (hfit : ov.fit 1048576) (hr4 : ov.row.length ≤ 4) (hk : ov.k = 3) :
    Calls Tryz.prog 33 #[.pointer (some ⟨db, 0, none⟩), .agg #[.slice A m c], .agg cs.toArray] w (Both B0 w0 w db sb (n + 8) (stepC D ov)) := by
  obtain ⟨kk, tt, ss, rr, ky, cq, lo, hi, lim⟩ := ov
  obtain ⟨CA, cc, XA, xc, RA, rc, rfl, k1, k2, k3, k4, k5, k6⟩ := hop
  dsimp only at k1 k2 k3 k4 k5 k6 hk hr4 ⊢
  subst hk
  have hok := h.ok
  have hoW := hr.okW hok
  have hm4 : m ≤ 4 := hW.1 ▸ hoW.n4
  have hb1 := (Below.refl w.heap.size w).alloc (Nat.le_refl _) (.cells #[.slice A m c] 73)
  have hb2 := hb1.alloc hb1.size (.cells #[.int .i64 3, .string tt, .string ss.name, .slice CA ss.cols.length cc, .slice XA ss.ixs.length xc, .slice RA rr.length rc, .int .i64 ky.k, .int .i64 ky.n, .string ky.s, .int .i64 cq, .int .i64 lo.k, .int .i64 lo.n, .string lo.s, .int .i64 hi.k, .int .i64 hi.n, .string hi.s, .int .i64 lim] 35)
  have hb3 := hb2.alloc hb2.size (.cells #[.slice none 0 0] 73)
  have n4 := ((Blk.new w #[.slice A m c] 73).alloc (.cells #[.int .i64 3, .string tt, .string ss.name, .slice CA ss.cols.length cc, .slice XA ss.ixs.length xc, .slice RA rr.length rc, .int .i64 ky.k, .int .i64 ky.n, .string ky.s, .int .i64 cq, .int .i64 lo.k, .int .i64 lo.n, .string lo.s, .int .i64 hi.k, .int .i64 hi.n, .string hi.s, .int .i64 lim] 35)).alloc (.cells #[.slice none 0 0] 73)
  have n5 := (Blk.new (w.alloc (.cells #[.slice A m c] 73)) #[.int .i64 3, .string tt, .string ss.name, .slice CA ss.cols.length cc, .slice XA ss.ixs.length xc, .slice RA rr.length rc, .int .i64 ky.k, .int .i64 ky.n, .string ky.s, .int .i64 cq, .int .i64 lo.k, .int .i64 lo.n, .string lo.s, .int .i64 hi.k, .int .i64 hi.n, .string hi.s, .int .i64 lim] 35).alloc (.cells #[.slice none 0 0] 73)
  have n6 := Blk.new ((w.alloc (.cells #[.slice A m c] 73)).alloc (.cells #[.int .i64 3, .string tt, .string ss.name, .slice CA ss.cols.length cc, .slice XA ss.ixs.length xc, .slice RA rr.length rc, .int .i64 ky.k, .int .i64 ky.n, .string ky.s, .int .i64 cq, .int .i64 lo.k, .int .i64 lo.n, .string lo.s, .int .i64 hi.k, .int .i64 hi.n, .string hi.s, .int .i64 lim] 35)) #[.slice none 0 0] 73
  rw [show (w.alloc (.cells #[.slice A m c] 73)).heap.size = w.heap.size + 1 by simp] at n5
  rw [show ((w.alloc (.cells #[.slice A m c] 73)).alloc (.cells #[.int .i64 3, .string tt, .string ss.name, .slice CA ss.cols.length cc, .slice XA ss.ixs.length xc, .slice RA rr.length rc, .int .i64 ky.k, .int .i64 ky.n, .string ky.s, .int .i64 cq, .int .i64 lo.k, .int .i64 lo.n, .string lo.s, .int .i64 hi.k, .int .i64 hi.n, .string hi.s, .int .i64 lim] 35)).heap.size = w.heap.size + 1 + 1 by simp] at n6
  have hz : (((w.alloc (.cells #[.slice A m c] 73)).alloc (.cells #[.int .i64 3, .string tt, .string ss.name, .slice CA ss.cols.length cc, .slice XA ss.ixs.length xc, .slice RA rr.length rc, .int .i64 ky.k, .int .i64 ky.n, .string ky.s, .int .i64 cq, .int .i64 lo.k, .int .i64 lo.n, .string lo.s, .int .i64 hi.k, .int .i64 hi.n, .string hi.s, .int .i64 lim] 35)).alloc (.cells #[.slice none 0 0] 73)).heap.size = w.heap.size + 3 := by simp
  obtain ⟨W1, hW1⟩ : ∃ W1, ((w.alloc (.cells #[.slice A m c] 73)).alloc (.cells #[.int .i64 3, .string tt, .string ss.name, .slice CA ss.cols.length cc, .slice XA ss.ixs.length xc, .slice RA rr.length rc, .int .i64 ky.k, .int .i64 ky.n, .string ky.s, .int .i64 cq, .int .i64 lo.k, .int .i64 lo.n, .string lo.s, .int .i64 hi.k, .int .i64 hi.n, .string hi.s, .int .i64 lim] 35)).alloc (.cells #[.slice none 0 0] 73) = W1 := ⟨_, rfl⟩
  rw [hW1] at n4 n5 n6 hb3 hz
  have hdb := h.lt
  have hS1 := h.below hb3
  have hF1 : ∀ b, Foot W1 db b ↔ Foot w db b := foot_same (hb3.block db hdb)
  have hD1 := (hW.more).below hb3
  have hB0 : B0 ≤ w.heap.size := h.le
  have h3 : 3 ≤ w.heap.size := Nat.le_trans (by obtain ⟨L, hd, _⟩ := h.ex; exact hd.b0) hB0
  have K4 := k4.below hb3
  have K5 := k5.below hb3
  have K6 := k6.below hb3
  have hmk : n ≤ 50000 := hn
  have hcall := hS1.upd (nm := tt) (row := rr) (A := RA) (m := rr.length) (c := rc) hmk (Nat.le_trans hfit.tb (by omega)) K6 rfl (fun v hv => (hfit.row.1 v hv).2.1) (fun v hv => Nat.le_trans (hfit.row.1 v hv).2.2 (by omega))
  have d0 := n5.c 0 (v := .int .i64 3) rfl
  have d1 := n5.c 1 (v := .string tt) rfl
  have d2 := n5.c 2 (v := .string ss.name) rfl
  have d3 := n5.c 3 (v := .slice CA ss.cols.length cc) rfl
  have d4 := n5.c 4 (v := .slice XA ss.ixs.length xc) rfl
  have d5 := n5.c 5 (v := .slice RA rr.length rc) rfl
  have d6 := n5.c 6 (v := .int .i64 ky.k) rfl
  have d7 := n5.c 7 (v := .int .i64 ky.n) rfl
  have d8 := n5.c 8 (v := .string ky.s) rfl
  have Hcall := hide hcall
  have N4 := hide n4
  have N5 := hide n5
  have N6 := hide n6
  have S1 := hide hS1
  have D1 := hide hD1
  have F1 := hide hF1
  have HB3 := hide hb3
  have Hr := hide hr
  have Hok := hide hok
  have HoW := hide hoW
  have Hfit := hide hfit
  have Hz := hide hz
  have HK4 := hide K4
  have HK5 := hide K5
  have HK6 := hide K6
  clear hcall n4 n5 n6 hS1 hD1 hF1 hb1 hb2 hb3 hr hok hoW hfit hz k4 k5 k6 K4 K5 K6 hW h
  go_enter Tryz.func33, Tryz.ntmps33
  go_wp2_with fail
  refine Hcall.out.mono ?_
  rintro e w2 ⟨rfl, hs2, hu2⟩
  have m4 := S1.out.blk N4.out (by decide) (by decide) hu2
  have m5 := S1.out.blk N5.out (by decide) (by decide) hu2
  have m6 := S1.out.blk N6.out (by decide) (by decide) hu2
  have hsz := hu2.size
  have hD2 : DBR (fun b => Foot w2 db b ∨ (w.heap.size ≤ b ∧ b < W1.heap.size)) w2 A m W := ((D1.out.movF (w' := w2) fun b hb hf => hu2.same b hb fun hf' => hf (.inl ((F1.out b).1 hf')))).congr fun b hb => by
    rcases hb with hb | hb
    · rcases hu2.foot b hb with h1 | h1
      · exact .inl ((F1.out b).1 h1)
      exact .inr (Nat.le_trans HB3.out.size h1)
    exact .inr hb.1
  have hFo : ∀ b, (Foot w2 db b ∨ (w.heap.size ≤ b ∧ b < W1.heap.size)) → b < w2.heap.size := fun b hb => by
    rcases hb with hb | hb
    · exact foot_lt hs2 b hb
    omega
  have hR4 := S1.out.rds HK4.out hu2
  have hR5 := S1.out.rds HK5.out hu2
  have hR6 := S1.out.rds HK6.out hu2
  have hboth := Hr.out.upd Hok.out tt rr (fun v hv => (Hfit.out.row.1 v hv).2.1)
  have href := upd15_any A m c W tt RA rr.length rc rr w2 hD2 hFo HoW.out hR6.rd rfl (fun v hv => (Hfit.out.row.1 v hv).2.1) (fun v hv => Nat.le_trans (Hfit.out.row.1 v hv).2.2 (by omega)) (by omega)
  rw [hboth.1] at href
  have Href := hide href
  have S2 := hide hs2
  have U2 := hide hu2
  have M4 := hide m4
  have M6 := hide m6
  have HRD := hide hboth.2
  have d0 := m5.c 0 (v := .int .i64 3) rfl
  have d1 := m5.c 1 (v := .string tt) rfl
  have d2 := m5.c 2 (v := .string ss.name) rfl
  have d3 := m5.c 3 (v := .slice CA ss.cols.length cc) rfl
  have d4 := m5.c 4 (v := .slice XA ss.ixs.length xc) rfl
  have d5 := m5.c 5 (v := .slice RA rr.length rc) rfl
  have d6 := m5.c 6 (v := .int .i64 ky.k) rfl
  have d7 := m5.c 7 (v := .int .i64 ky.n) rfl
  have d8 := m5.c 8 (v := .string ky.s) rfl
  have b0 := m4.c 0 (v := .slice A m c) rfl
  clear hs2 hu2 m4 m5 m6 hD2 hFo hR4 hR5 hR6 hboth href Hcall hsz
  go_wp2_with fail
  refine Href.out.mono ?_
  rintro e w3 hdb3
  obtain ⟨A', m', c', rfl, hdr, hb23⟩ := hdb3
  have g4 := M4.out.below hb23
  have g6 := M6.out.below hb23
  have a0 := g4.c 0 (v := .slice A m c) rfl
  have f0 := g4.fr 0
  have r4 := g4.set 0 (.slice A' m' c')
  have a1 := r4.c 0 (v := .slice A' m' c') rfl
  have g6' := g6.set_other (a := ⟨w.heap.size, 0, none⟩) (by show w.heap.size + 1 + 1 ≠ w.heap.size; omega) (.slice A' m' c')
  have a6 := g6'.c 0 (v := .slice none 0 0) rfl
  have f6 := g6'.fr 0
  have r6 := (g6'.set 0 (.slice A' m' c')).c 0 (v := .slice A' m' c') rfl
  have hdull1 : ∀ v ∈ (#[Value.slice A m c] : Array Value).toList, Dull v := by intro v hv; simp at hv; subst hv; trivial
  have hdull2 : ∀ v ∈ (#[Value.slice none 0 0] : Array Value).toList, Dull v := by intro v hv; simp at hv; subst hv; trivial
  have s3 := S2.out.below hb23
  have s4 := s3.setc g4 hdull1 (by decide) (by decide) hB0 h3 0 (.slice A' m' c')
  have s5 := s4.setc g6' hdull2 (by decide) (by decide) (by omega) (by omega) 0 (.slice A' m' c')
  have hdbne : w.heap.size ≠ db := by omega
  have hdbne2 : w.heap.size + 1 + 1 ≠ db := by omega
  have u3 := ((((Upd.of_below HB3.out hdb).trans U2.out).trans (Upd.of_below hb23 S2.out.lt)).setc (g := w.heap.size) (Nat.le_refl _) hdbne 0 (.slice A' m' c')).setc (g := w.heap.size + 1 + 1) (by omega) hdbne2 0 (.slice A' m' c')
  have hfoot : ∀ b, Foot ((w3.setCell ⟨w.heap.size, 0, none⟩ (.slice A' m' c')).setCell ⟨w.heap.size + 1 + 1, 0, none⟩ (.slice A' m' c')) db b ↔ Foot w2 db b := foot_same (((Below.heap_setCell _ ⟨w.heap.size + 1 + 1, 0, none⟩ _ db (fun e => hdbne2 e.symm)).trans (Below.heap_setCell _ ⟨w.heap.size, 0, none⟩ _ db (fun e => hdbne e.symm))).trans (hb23.block db S2.out.lt))
  have hz := Hz.out
  have hd5 := (hdr.movF (w' := (w3.setCell ⟨w.heap.size, 0, none⟩ (.slice A' m' c')).setCell ⟨w.heap.size + 1 + 1, 0, none⟩ (.slice A' m' c')) fun b hb hf => (Below.heap_setCell _ ⟨w.heap.size + 1 + 1, 0, none⟩ _ b (by show b ≠ w.heap.size + 1 + 1; intro e; exact hf (.inr (by omega)))).trans (Below.heap_setCell _ ⟨w.heap.size, 0, none⟩ _ b (by show b ≠ w.heap.size; intro e; exact hf (.inr (by omega))))).congr (F' := Foot ((w3.setCell ⟨w.heap.size, 0, none⟩ (.slice A' m' c')).setCell ⟨w.heap.size + 1 + 1, 0, none⟩ (.slice A' m' c')) db) fun b hb => .inl ((hfoot b).1 hb)
  have S5 := hide s5
  have U5 := hide u3
  have D5 := hide hd5
  clear s3 s4 s5 u3 hd5 hfoot hdr hb23 g4 g6 r4 g6' hdull1 hdull2 hz b0 d0 d1 d2 d3 d4 d5 d6 d7 d8
  go_wp2_with fail
  refine bodyPost_ret (v := .tuple #[.agg #[.slice A' m' c'], .bool true]) (by simp [results, Tryz.results33, go_sem, r6]) rfl ?_
  refine ⟨A', m', c', _, rfl, ?_, D5.out, ?_, U5.out⟩
  · rw [show stepC D ⟨3, tt, ss, rr, ky, cq, lo, hi, lim⟩ = updD D tt rr from rfl]; exact S5.out
  rw [show stepC D ⟨3, tt, ss, rr, ky, cq, lo, hi, lim⟩ = updD D tt rr from rfl]; exact HRD.out
set_option maxHeartbeats 6400000 in
set_option maxRecDepth 1000000 in
theorem both_del {B0 db sb n : Nat} {w0 w : World} {D : List Tb} (h : St B0 w0 w db sb n D) (hn : n ≤ 50000) {A : Option Addr} {m c : Nat} {W : List Tb} (hW : DBR (Foot w db) w A m W) (hr : RefD D W) (ov : OpV) (cs : List Value) (hop : OpAt B0 w ov cs) (hfit : ov.fit 1048576) (hr4 : ov.row.length ≤ 4) (hk : ov.k = 4) :
    Calls Tryz.prog 33 #[.pointer (some ⟨db, 0, none⟩), .agg #[.slice A m c], .agg cs.toArray] w (Both B0 w0 w db sb (n + 8) (stepC D ov)) := by
  obtain ⟨kk, tt, ss, rr, ky, cq, lo, hi, lim⟩ := ov
  obtain ⟨CA, cc, XA, xc, RA, rc, rfl, k1, k2, k3, k4, k5, k6⟩ := hop
  dsimp only at k1 k2 k3 k4 k5 k6 hk hr4 ⊢
  subst hk
  have hok := h.ok
  have hoW := hr.okW hok
  have hm4 : m ≤ 4 := hW.1 ▸ hoW.n4
  have hb1 := (Below.refl w.heap.size w).alloc (Nat.le_refl _) (.cells #[.slice A m c] 73)
  have hb2 := hb1.alloc hb1.size (.cells #[.int .i64 4, .string tt, .string ss.name, .slice CA ss.cols.length cc, .slice XA ss.ixs.length xc, .slice RA rr.length rc, .int .i64 ky.k, .int .i64 ky.n, .string ky.s, .int .i64 cq, .int .i64 lo.k, .int .i64 lo.n, .string lo.s, .int .i64 hi.k, .int .i64 hi.n, .string hi.s, .int .i64 lim] 35)
  have hb3 := hb2.alloc hb2.size (.cells #[.slice none 0 0] 73)
  have n4 := ((Blk.new w #[.slice A m c] 73).alloc (.cells #[.int .i64 4, .string tt, .string ss.name, .slice CA ss.cols.length cc, .slice XA ss.ixs.length xc, .slice RA rr.length rc, .int .i64 ky.k, .int .i64 ky.n, .string ky.s, .int .i64 cq, .int .i64 lo.k, .int .i64 lo.n, .string lo.s, .int .i64 hi.k, .int .i64 hi.n, .string hi.s, .int .i64 lim] 35)).alloc (.cells #[.slice none 0 0] 73)
  have n5 := (Blk.new (w.alloc (.cells #[.slice A m c] 73)) #[.int .i64 4, .string tt, .string ss.name, .slice CA ss.cols.length cc, .slice XA ss.ixs.length xc, .slice RA rr.length rc, .int .i64 ky.k, .int .i64 ky.n, .string ky.s, .int .i64 cq, .int .i64 lo.k, .int .i64 lo.n, .string lo.s, .int .i64 hi.k, .int .i64 hi.n, .string hi.s, .int .i64 lim] 35).alloc (.cells #[.slice none 0 0] 73)
  have n6 := Blk.new ((w.alloc (.cells #[.slice A m c] 73)).alloc (.cells #[.int .i64 4, .string tt, .string ss.name, .slice CA ss.cols.length cc, .slice XA ss.ixs.length xc, .slice RA rr.length rc, .int .i64 ky.k, .int .i64 ky.n, .string ky.s, .int .i64 cq, .int .i64 lo.k, .int .i64 lo.n, .string lo.s, .int .i64 hi.k, .int .i64 hi.n, .string hi.s, .int .i64 lim] 35)) #[.slice none 0 0] 73
  rw [show (w.alloc (.cells #[.slice A m c] 73)).heap.size = w.heap.size + 1 by simp] at n5
  rw [show ((w.alloc (.cells #[.slice A m c] 73)).alloc (.cells #[.int .i64 4, .string tt, .string ss.name, .slice CA ss.cols.length cc, .slice XA ss.ixs.length xc, .slice RA rr.length rc, .int .i64 ky.k, .int .i64 ky.n, .string ky.s, .int .i64 cq, .int .i64 lo.k, .int .i64 lo.n, .string lo.s, .int .i64 hi.k, .int .i64 hi.n, .string hi.s, .int .i64 lim] 35)).heap.size = w.heap.size + 1 + 1 by simp] at n6
  have hz : (((w.alloc (.cells #[.slice A m c] 73)).alloc (.cells #[.int .i64 4, .string tt, .string ss.name, .slice CA ss.cols.length cc, .slice XA ss.ixs.length xc, .slice RA rr.length rc, .int .i64 ky.k, .int .i64 ky.n, .string ky.s, .int .i64 cq, .int .i64 lo.k, .int .i64 lo.n, .string lo.s, .int .i64 hi.k, .int .i64 hi.n, .string hi.s, .int .i64 lim] 35)).alloc (.cells #[.slice none 0 0] 73)).heap.size = w.heap.size + 3 := by simp
  obtain ⟨W1, hW1⟩ : ∃ W1, ((w.alloc (.cells #[.slice A m c] 73)).alloc (.cells #[.int .i64 4, .string tt, .string ss.name, .slice CA ss.cols.length cc, .slice XA ss.ixs.length xc, .slice RA rr.length rc, .int .i64 ky.k, .int .i64 ky.n, .string ky.s, .int .i64 cq, .int .i64 lo.k, .int .i64 lo.n, .string lo.s, .int .i64 hi.k, .int .i64 hi.n, .string hi.s, .int .i64 lim] 35)).alloc (.cells #[.slice none 0 0] 73) = W1 := ⟨_, rfl⟩
  rw [hW1] at n4 n5 n6 hb3 hz
  have hdb := h.lt
  have hS1 := h.below hb3
  have hF1 : ∀ b, Foot W1 db b ↔ Foot w db b := foot_same (hb3.block db hdb)
  have hD1 := (hW.more).below hb3
  have hB0 : B0 ≤ w.heap.size := h.le
  have h3 : 3 ≤ w.heap.size := Nat.le_trans (by obtain ⟨L, hd, _⟩ := h.ex; exact hd.b0) hB0
  have K4 := k4.below hb3
  have K5 := k5.below hb3
  have K6 := k6.below hb3
  have hmk : n ≤ 50000 := hn
  have hcall := (show Calls Tryz.prog 23 #[.pointer (some ⟨db, 0, none⟩), .string tt, .agg #[.int .i64 ky.k, .int .i64 ky.n, .string ky.s]] _ _ from hS1.del tt ky hmk hfit.key.2.1 (Nat.le_trans hfit.key.2.2 (by omega)) (Nat.le_trans hfit.tb (by omega)))
  have d0 := n5.c 0 (v := .int .i64 4) rfl
  have d1 := n5.c 1 (v := .string tt) rfl
  have d2 := n5.c 2 (v := .string ss.name) rfl
  have d3 := n5.c 3 (v := .slice CA ss.cols.length cc) rfl
  have d4 := n5.c 4 (v := .slice XA ss.ixs.length xc) rfl
  have d5 := n5.c 5 (v := .slice RA rr.length rc) rfl
  have d6 := n5.c 6 (v := .int .i64 ky.k) rfl
  have d7 := n5.c 7 (v := .int .i64 ky.n) rfl
  have d8 := n5.c 8 (v := .string ky.s) rfl
  have Hcall := hide hcall
  have N4 := hide n4
  have N5 := hide n5
  have N6 := hide n6
  have S1 := hide hS1
  have D1 := hide hD1
  have F1 := hide hF1
  have HB3 := hide hb3
  have Hr := hide hr
  have Hok := hide hok
  have HoW := hide hoW
  have Hfit := hide hfit
  have Hz := hide hz
  have HK4 := hide K4
  have HK5 := hide K5
  have HK6 := hide K6
  clear hcall n4 n5 n6 hS1 hD1 hF1 hb1 hb2 hb3 hr hok hoW hfit hz k4 k5 k6 K4 K5 K6 hW h
  go_enter Tryz.func33, Tryz.ntmps33
  go_wp2_with fail
  refine Hcall.out.mono ?_
  rintro e w2 ⟨rfl, hs2, hu2⟩
  have m4 := S1.out.blk N4.out (by decide) (by decide) hu2
  have m5 := S1.out.blk N5.out (by decide) (by decide) hu2
  have m6 := S1.out.blk N6.out (by decide) (by decide) hu2
  have hsz := hu2.size
  have hD2 : DBR (fun b => Foot w2 db b ∨ (w.heap.size ≤ b ∧ b < W1.heap.size)) w2 A m W := ((D1.out.movF (w' := w2) fun b hb hf => hu2.same b hb fun hf' => hf (.inl ((F1.out b).1 hf')))).congr fun b hb => by
    rcases hb with hb | hb
    · rcases hu2.foot b hb with h1 | h1
      · exact .inl ((F1.out b).1 h1)
      exact .inr (Nat.le_trans HB3.out.size h1)
    exact .inr hb.1
  have hFo : ∀ b, (Foot w2 db b ∨ (w.heap.size ≤ b ∧ b < W1.heap.size)) → b < w2.heap.size := fun b hb => by
    rcases hb with hb | hb
    · exact foot_lt hs2 b hb
    omega
  have hR4 := S1.out.rds HK4.out hu2
  have hR5 := S1.out.rds HK5.out hu2
  have hR6 := S1.out.rds HK6.out hu2
  have hboth := Hr.out.del Hok.out tt ky Hfit.out.key.2.1 (Nat.le_trans Hfit.out.key.2.2 (by omega))
  have href := (show Calls Tryz.prog 79 #[.agg #[.slice A m c], .string tt, .agg #[.int .i64 ky.k, .int .i64 ky.n, .string ky.s]] _ _ from del15_any A m c W tt ky w2 hD2 hFo HoW.out Hfit.out.key.2.1 (Nat.le_trans Hfit.out.key.2.2 (by omega)))
  rw [hboth.1] at href
  have Href := hide href
  have S2 := hide hs2
  have U2 := hide hu2
  have M4 := hide m4
  have M6 := hide m6
  have HRD := hide hboth.2
  have d0 := m5.c 0 (v := .int .i64 4) rfl
  have d1 := m5.c 1 (v := .string tt) rfl
  have d2 := m5.c 2 (v := .string ss.name) rfl
  have d3 := m5.c 3 (v := .slice CA ss.cols.length cc) rfl
  have d4 := m5.c 4 (v := .slice XA ss.ixs.length xc) rfl
  have d5 := m5.c 5 (v := .slice RA rr.length rc) rfl
  have d6 := m5.c 6 (v := .int .i64 ky.k) rfl
  have d7 := m5.c 7 (v := .int .i64 ky.n) rfl
  have d8 := m5.c 8 (v := .string ky.s) rfl
  have b0 := m4.c 0 (v := .slice A m c) rfl
  clear hs2 hu2 m4 m5 m6 hD2 hFo hR4 hR5 hR6 hboth href Hcall hsz
  go_wp2_with fail
  refine Href.out.mono ?_
  rintro e w3 hdb3
  obtain ⟨A', m', c', rfl, hdr, hb23⟩ := hdb3
  have g4 := M4.out.below hb23
  have g6 := M6.out.below hb23
  have a0 := g4.c 0 (v := .slice A m c) rfl
  have f0 := g4.fr 0
  have r4 := g4.set 0 (.slice A' m' c')
  have a1 := r4.c 0 (v := .slice A' m' c') rfl
  have g6' := g6.set_other (a := ⟨w.heap.size, 0, none⟩) (by show w.heap.size + 1 + 1 ≠ w.heap.size; omega) (.slice A' m' c')
  have a6 := g6'.c 0 (v := .slice none 0 0) rfl
  have f6 := g6'.fr 0
  have r6 := (g6'.set 0 (.slice A' m' c')).c 0 (v := .slice A' m' c') rfl
  have hdull1 : ∀ v ∈ (#[Value.slice A m c] : Array Value).toList, Dull v := by intro v hv; simp at hv; subst hv; trivial
  have hdull2 : ∀ v ∈ (#[Value.slice none 0 0] : Array Value).toList, Dull v := by intro v hv; simp at hv; subst hv; trivial
  have s3 := S2.out.below hb23
  have s4 := s3.setc g4 hdull1 (by decide) (by decide) hB0 h3 0 (.slice A' m' c')
  have s5 := s4.setc g6' hdull2 (by decide) (by decide) (by omega) (by omega) 0 (.slice A' m' c')
  have hdbne : w.heap.size ≠ db := by omega
  have hdbne2 : w.heap.size + 1 + 1 ≠ db := by omega
  have u3 := ((((Upd.of_below HB3.out hdb).trans U2.out).trans (Upd.of_below hb23 S2.out.lt)).setc (g := w.heap.size) (Nat.le_refl _) hdbne 0 (.slice A' m' c')).setc (g := w.heap.size + 1 + 1) (by omega) hdbne2 0 (.slice A' m' c')
  have hfoot : ∀ b, Foot ((w3.setCell ⟨w.heap.size, 0, none⟩ (.slice A' m' c')).setCell ⟨w.heap.size + 1 + 1, 0, none⟩ (.slice A' m' c')) db b ↔ Foot w2 db b := foot_same (((Below.heap_setCell _ ⟨w.heap.size + 1 + 1, 0, none⟩ _ db (fun e => hdbne2 e.symm)).trans (Below.heap_setCell _ ⟨w.heap.size, 0, none⟩ _ db (fun e => hdbne e.symm))).trans (hb23.block db S2.out.lt))
  have hz := Hz.out
  have hd5 := (hdr.movF (w' := (w3.setCell ⟨w.heap.size, 0, none⟩ (.slice A' m' c')).setCell ⟨w.heap.size + 1 + 1, 0, none⟩ (.slice A' m' c')) fun b hb hf => (Below.heap_setCell _ ⟨w.heap.size + 1 + 1, 0, none⟩ _ b (by show b ≠ w.heap.size + 1 + 1; intro e; exact hf (.inr (by omega)))).trans (Below.heap_setCell _ ⟨w.heap.size, 0, none⟩ _ b (by show b ≠ w.heap.size; intro e; exact hf (.inr (by omega))))).congr (F' := Foot ((w3.setCell ⟨w.heap.size, 0, none⟩ (.slice A' m' c')).setCell ⟨w.heap.size + 1 + 1, 0, none⟩ (.slice A' m' c')) db) fun b hb => .inl ((hfoot b).1 hb)
  have S5 := hide s5
  have U5 := hide u3
  have D5 := hide hd5
  clear s3 s4 s5 u3 hd5 hfoot hdr hb23 g4 g6 r4 g6' hdull1 hdull2 hz b0 d0 d1 d2 d3 d4 d5 d6 d7 d8
  go_wp2_with fail
  refine bodyPost_ret (v := .tuple #[.agg #[.slice A' m' c'], .bool true]) (by simp [results, Tryz.results33, go_sem, r6]) rfl ?_
  refine ⟨A', m', c', _, rfl, ?_, D5.out, ?_, U5.out⟩
  · rw [show stepC D ⟨4, tt, ss, rr, ky, cq, lo, hi, lim⟩ = delD D tt ky from rfl]; exact S5.out
  rw [show stepC D ⟨4, tt, ss, rr, ky, cq, lo, hi, lim⟩ = delD D tt ky from rfl]; exact HRD.out
end Go.Proofs.YtekokogmnhlchaaGreatDoor
