import Derived.Test.YtekokogmnhlchaaGreatDoorA6
import Derived.Laws.IdiomCopy
import Derived.Deep.OwnRows
import Derived.Maps.Own
import Derived.WalkArith
import Derived.Deep.DeepCutAuto
import Derived.Deep.Cut
set_option linter.unusedSimpArgs false
set_option linter.unusedVariables false
set_option linter.unusedSectionVars false
namespace Go.Proofs.YtekokogmnhlchaaGreatDoor
open Go.RowKit
def is64 (n : Int) : Prop := -9223372036854775808 ≤ n ∧ n ≤ 9223372036854775807
def diskCells (mb : Nat) : Array Value := #[.int .i64 1000, .map (some mb), .slice none 0 0, .bool false, .int .i64 0, .int .i64 0, .int .u64 0, .int .i64 0, .int .i64 0]
structure DiskAt (w : World) (kb : Nat) : Prop where
  ex : ∃ mb, Blk w kb (diskCells mb) 170 ∧ w.heap[mb]? = some (.map #[] 0)
theorem DiskAt.below {w w' : World} {kb : Nat} (h : DiskAt w kb) (hb : Below w.heap.size w w') : DiskAt w' kb := by
  obtain ⟨mb, h1, h2⟩ := h
  exact ⟨mb, h1.below hb, (hb.block mb (Array.getElem?_eq_some_iff.1 h2).1).trans h2⟩
theorem disknew_ok (w : World) : Calls Tryz.prog 51 #[.int .i64 1000] w fun e w' => e = .returned (.tuple #[.pointer (some ⟨w.heap.size + 1, 0, none⟩), .int .i64 0]) ∧ DiskAt w' (w.heap.size + 1) ∧ Below w.heap.size w w' := by
  have hmm := @run_makeMap Tryz.prog
  go_enter Tryz.func51, Tryz.ntmps51
  go_wp2_with fail
  go_ret2
  refine ⟨rfl, ⟨w.heap.size, ?_, ?_⟩, ((Below.refl _ _).alloc (Nat.le_refl _) _).alloc (by simp) _⟩
  · have := Blk.new (w.alloc (.map #[] 0)) (diskCells w.heap.size) 170
    rw [show (w.alloc (.map #[] 0)).heap.size = w.heap.size + 1 by simp] at this
    exact this
  exact (Below.heap_alloc _ _ _ (by simp)).trans (MapKept.heap_alloc w _).1
def zeros (n : Nat) : List UInt8 := List.replicate n 0
theorem made_zeros (w : World) (n : Nat) (t : TypeId) : RB (w.alloc (.cells (madeCells #[.int .u8 0] n) t)) (some ⟨w.heap.size, 0, none⟩) n (zeros n) := by
  have := Rd.lit w (madeCells #[.int .u8 0] n) t 1 n _ rfl (by rw [size_madeCells]; omega)
  rw [toList_madeCells_one] at this
  have e : bys (zeros n) = List.replicate n (.int .u8 0) := by simp [bys, zeros]
  rw [RB, e]; exact this
theorem hmk8 : ∀ (n : Nat), n ≤ 100000 → ∀ (w : World), (Instr.makeSlice 105 (.int .i64 n) (.int .i64 n)).run Tryz.prog w = .ok (.slice (some ⟨w.heap.size, 0, none⟩) n n) (w.alloc (.cells (madeCells #[.int .u8 0] n) 5)) := fun n hn =>
  run_make_row' (P := Tryz.prog) 105 5 (.int .u8 0) 1 Tryz.underlying105 (by kernel_rfl : (Tryz.prog.info? 5).map (fun i => (i.zero, i.size, i.bytes)) = some (some (.int .u8 0), 1, 1)) rfl .i64 .i64 n (by omega) (by omega)
theorem size5 : (Tryz.prog.info? 5).map (·.size) = some 1 := by kernel_rfl
set_option maxRecDepth 100000 in
theorem whole_nil (c : Nat) (w : World) : Calls Tryz.prog 228 #[.slice none 0 c] w fun e w' => ∃ A, e = .returned (.slice A 8192 8192) ∧ RB w' A 8192 (zeros 8192) ∧ Below w.heap.size w w' := by
  have hmk : (Instr.makeSlice 105 (.int .i64 8192) (.int .i64 8192)).run Tryz.prog w = .ok (.slice (some ⟨w.heap.size, 0, none⟩) 8192 8192) (w.alloc (.cells (madeCells #[.int .u8 0] 8192) 5)) := hmk8 8192 (by omega) w
  have hcp := run_copy_none (P := Tryz.prog) (w.alloc (.cells (madeCells #[.int .u8 0] 8192) 5)) 105 105 3 5 (some ⟨w.heap.size, 0, none⟩) none 8192 8192 0 c Tryz.underlying105 size5 rfl
  have hz := made_zeros w 8192 5
  have hb : Below w.heap.size w (w.alloc (.cells (madeCells #[.int .u8 0] 8192) 5)) := (Below.refl _ _).alloc (Nat.le_refl _) _
  simp only [goInt] at hcp
  generalize w.alloc (.cells (madeCells #[.int .u8 0] 8192) 5) = W at *
  go_enter Tryz.func228, Tryz.ntmps228
  go_wp2
  go_ret
  exact ⟨_, rfl, hz, hb⟩
set_option maxRecDepth 100000 in
theorem zero_ok (A : Option Addr) (n c : Nat) (w : World) (h : RB w A n (zeros n)) (hn : n ≤ 100000) : Calls Tryz.prog 230 #[.slice A n c] w fun e w' => e = .returned (.bool true) ∧ Below w.heap.size w w' := by
  have hmk := hmk8 n hn w
  have hz := made_zeros w n 5
  have hb : Below w.heap.size w (w.alloc (.cells (madeCells #[.int .u8 0] n) 5)) := (Below.refl _ _).alloc (Nat.le_refl _) _
  have h1 := h.below hb
  generalize w.alloc (.cells (madeCells #[.int .u8 0] n) 5) = W at *
  go_enter Tryz.func230, Tryz.ntmps230
  go_wp2_with fail
  refine (beq_any _ _ _ _ _ _ _ _ _ h1 hz).mono ?_
  rintro e w' ⟨rfl, rfl⟩
  go_wp2
  go_ret
  exact ⟨ret_bool (by simp), hb⟩
theorem look_none {w : World} {mb : Nat} (h : w.heap[mb]? = some (.map #[] 0)) (a : Int) (ha : is64 a) : (Instr.lookup 164 (.map (some mb)) (.int .i64 a) false).run Tryz.prog w = .ok (.slice none 0 0) w := by
  have hown : w.ownsMap Tryz.prog 3 (fun v => some (.held v, [])) mb 0 (.map [] : DataW Value) := ⟨#[], 0, h, ⟨by simp, MapKept.stamped_empty 0, by simp⟩, Nat.le_refl _, rfl⟩
  obtain ⟨v, ps, h1, h2⟩ := hown.lookup (Go.Maps.int_keyed Tryz.underlying3) Tryz.underlying164 (z := .slice none 0 0) (zd := .held (.slice none 0 0)) (zp := []) (by kernel_rfl) rfl (Go.Maps.keyOf_int_mk Tryz.underlying3 (WalkArith.wf_i64 (by unfold is64 at ha; omega)))
  have h3 : v = .slice none 0 0 := by
    have h4 : (some (.held v, []) : Option (DataW Value × List MemPlace)) = some (.held (.slice none 0 0), ps) := h2
    simp at h4
    exact h4.1
  rw [h1, h3]
theorem good_ok (kb : Nat) (a : Int) (ha : is64 a) (w : World) (h : DiskAt w kb) : Calls Tryz.prog 229 #[.pointer (some ⟨kb, 0, none⟩), .int .i64 a] w fun e w' => ∃ A, e = .returned (.slice A 8192 8192) ∧ RB w' A 8192 (zeros 8192) ∧ Below w.heap.size w w' := by
  obtain ⟨mb, hk, hm⟩ := h
  have c1 := hk.c 1 (v := .map (some mb)) rfl
  have hl := look_none hm a ha
  go_enter Tryz.func229, Tryz.ntmps229
  go_wp2_with fail
  refine (whole_nil 0 _).mono ?_
  rintro e w' ⟨A, rfl, hz, hb⟩
  go_wp2
  go_ret
  exact ⟨_, rfl, hz, hb⟩
theorem read_ok (kb : Nat) (a : Int) (w : World) (h : DiskAt w kb) (h0 : 0 ≤ a) (h1 : a < 1000) : Calls Tryz.prog 198 #[.pointer (some ⟨kb, 0, none⟩), .int .i64 a] w fun e w' => ∃ A, e = .returned (.tuple #[.slice A 8192 8192, .int .i64 0]) ∧ RB w' A 8192 (zeros 8192) ∧ Below w.heap.size w w' := by
  have h' := h
  obtain ⟨mb, hk, hm⟩ := h
  have c0 := hk.c 0 (v := .int .i64 1000) rfl
  have c2 := hk.c 2 (v := .slice none 0 0) rfl
  have c3 := hk.c 3 (v := .bool false) rfl
  go_enter Tryz.func198, Tryz.ntmps198
  go_wp2_with fail
  refine wp_loop_rounds 1 ?_
  rw [rounds_succ]
  go_wp2_with fail
  refine (good_ok kb a (by unfold is64; omega) _ h').mono ?_
  rintro e w' ⟨A, rfl, hz, hb⟩
  go_wp2
  go_ret2
  exact ⟨_, rfl, hz, hb⟩
theorem readHead_ok (A : Option Addr) (c : Nat) (w : World) (h : RB w A 8192 (zeros 8192)) : Calls Tryz.prog 199 #[.slice A 8192 c, .int .i64 1000] w fun e w' => e = .returned (.tuple #[.agg #[.int .u64 0, .int .i64 0], .bool true]) ∧ Below w.heap.size w w' := by
  have hz := zero_ok A 8192 c (w.alloc (.cells #[.int .u64 0, .int .i64 0] 274)) (h.alloc _) (by omega)
  go_enter Tryz.func199, Tryz.ntmps199
  go_wp2_with fail
  refine hz.mono ?_
  rintro e w' ⟨rfl, hb⟩
  have hB := (Blk.new w #[.int .u64 0, .int .i64 0] 274).below hb
  have f0 := hB.fr 0
  have f1 := hB.fr 1
  have c0 := hB.c 0 (v := .int .u64 0) rfl
  have c1 := hB.c 1 (v := .int .i64 0) rfl
  have hE := (hB.set 0 (.int .u64 0)).set 1 (.int .i64 0)
  have e0 := hE.c 0 (v := .int .u64 0) rfl
  have e1 := hE.c 1 (v := .int .i64 0) rfl
  have hb2 : Below w.heap.size w ((w'.setCell ⟨w.heap.size, 0, none⟩ (.int .u64 0)).setCell ⟨w.heap.size, 1, none⟩ (.int .i64 0)) := ((((Below.refl _ _).alloc (Nat.le_refl _) _).trans (hb.mono (by simp))).setCell (by simp) _).setCell (by simp) _
  go_wp2_with fail
  exact bodyPost_ret (v := .tuple #[.agg #[.int .u64 0, .int .i64 0], .bool true]) (by simp [results, Tryz.results199, go_sem, e0, e1]) rfl ⟨rfl, hb2⟩
def pgCells (kb mb : Nat) : Array Value := #[.int .i64 998, .map (some mb), .pointer (some ⟨kb, 0, none⟩), .int .i64 0, .int .u64 0, .int .i64 0]
set_option maxHeartbeats 1600000 in
set_option maxRecDepth 100000 in
theorem popen_ok (kb : Nat) (w : World) (h : DiskAt w kb) : Calls Tryz.prog 157 #[.pointer (some ⟨kb, 0, none⟩)] w fun e w' => ∃ mb, e = .returned (.tuple #[.pointer (some ⟨w.heap.size + 1, 0, none⟩), .int .i64 0]) ∧ Blk w' (w.heap.size + 1) (pgCells kb mb) 276 ∧ Below w.heap.size w w' := by
  have h' := h
  obtain ⟨mb, hk, hm⟩ := h
  have c0 := hk.c 0 (v := .int .i64 1000) rfl
  have c3 := hk.c 3 (v := .bool false) rfl
  have c4 := hk.c 4 (v := .int .i64 0) rfl
  have hmm := @run_makeMap Tryz.prog
  go_enter Tryz.func157, Tryz.ntmps157
  go_wp2_with (first
    | (go_at_call 195; refine (blocks_any kb 1000 _ ?_).mono ?_; assumption; rintro e w' ⟨rfl, rfl⟩)
    | (go_at_call 196; refine (down_any kb false _ ?_).mono ?_; assumption; rintro e w' ⟨rfl, hh⟩; obtain rfl := hh.symm; clear hh)
    | (go_at_call 197; refine (life_any kb 0 _ ?_).mono ?_; assumption; rintro e w' ⟨rfl, hh⟩; obtain rfl := hh.symm; clear hh)
    | fail)
  have hB0 : Below w.heap.size w ((w.alloc (.map #[] 0)).alloc (.cells #[.int .i64 998, .map (some w.heap.size), .pointer (some ⟨kb, 0, none⟩), .int .i64 0, .int .u64 0, .int .i64 0] 276)) := ((Below.refl _ _).alloc (Nat.le_refl _) _).alloc (by simp) _
  have hP0 : Blk ((w.alloc (.map #[] 0)).alloc (.cells #[.int .i64 998, .map (some w.heap.size), .pointer (some ⟨kb, 0, none⟩), .int .i64 0, .int .u64 0, .int .i64 0] 276)) (w.heap.size + 1) (pgCells kb w.heap.size) 276 := by
    have := Blk.new (w.alloc (.map #[] 0)) (pgCells kb w.heap.size) 276
    rw [show (w.alloc (.map #[] 0)).heap.size = w.heap.size + 1 by simp] at this
    exact this
  generalize (w.alloc (.map #[] 0)).alloc (.cells #[.int .i64 998, .map (some w.heap.size), .pointer (some ⟨kb, 0, none⟩), .int .i64 0, .int .u64 0, .int .i64 0] 276) = W0 at *
  have hD0 := h'.below hB0
  clear hk hm c0 c3 c4
  refine wp_loop_rounds 3 ?_
  rw [rounds_succ]
  go_wp2_with fail
  refine (read_ok kb 0 _ hD0 (by omega) (by omega)).mono ?_
  rintro e W1 ⟨A1, rfl, hz1, hb1⟩
  have hD1 := hD0.below hb1
  obtain ⟨mb1, hk1, hm1⟩ := hD1
  have c0 := hk1.c 0 (v := .int .i64 1000) rfl
  have hP1 := hP0.below hb1
  clear hk1
  go_wp2_with (first
    | (go_at_call 195; refine (blocks_any kb 1000 _ ?_).mono ?_; assumption; rintro e w' ⟨rfl, rfl⟩)
    | fail)
  refine (readHead_ok A1 8192 _ hz1).mono ?_
  rintro e W2 ⟨rfl, hb2⟩
  have hP2 := hP1.below hb2
  have hP3 := hP2.alloc (.cells #[.int .u64 0, .int .i64 0] 274)
  have p4 := hP3.c 4 (v := .int .u64 0) rfl
  have g4 := hP3.fr 4
  have g5 := hP3.fr 5
  have p5 := hP3.c 5 (v := .int .i64 0) rfl
  have n0 := C.new W2 #[.int .u64 0, .int .i64 0] 274 0 (v := .int .u64 0) rfl
  have n1 := C.new W2 #[.int .u64 0, .int .i64 0] 274 1 (v := .int .i64 0) rfl
  go_wp2_with fail
  go_quiet (fail)
  go_wp2_with fail
  have hb2' := below_chain hb1 hb2
  have hbW : Below w.heap.size w (((W2.alloc (.cells #[.int .u64 0, .int .i64 0] 274)).drewN nq |>.setCell ⟨w.heap.size + 1, 4, none⟩ (.int .u64 0)).setCell ⟨w.heap.size + 1, 5, none⟩ (.int .i64 0)) :=
    ((below_drewN ((below_then hB0 hB0.size hb2').alloc (below_then hB0 hB0.size hb2').size _) nq).setCell (by simp) _).setCell (by simp) _
  have hQ : Blk (((W2.alloc (.cells #[.int .u64 0, .int .i64 0] 274)).drewN nq |>.setCell ⟨w.heap.size + 1, 4, none⟩ (.int .u64 0)).setCell ⟨w.heap.size + 1, 5, none⟩ (.int .i64 0)) (w.heap.size + 1) (pgCells kb w.heap.size) 276 := (Blk.set (Blk.set (hP3.drewN nq) 4 (.int .u64 0)) 5 (.int .i64 0))
  generalize (((W2.alloc (.cells #[.int .u64 0, .int .i64 0] 274)).drewN nq).setCell ⟨w.heap.size + 1, 4, none⟩ (.int .u64 0)).setCell ⟨w.heap.size + 1, 5, none⟩ (.int .i64 0) = W3 at *
  clear hb2' hb2 hb1 hP3 hP2 hP1 hP0 p4 p5 g4 g5 n0 n1 c0 hD0 hB0 hz1 hm1
  have hD3 := h'.below hbW
  rw [rounds_succ]
  go_wp2_with fail
  refine (read_ok kb 1 _ hD3 (by omega) (by omega)).mono ?_
  rintro e W4 ⟨A4, rfl, hz4, hb4⟩
  have hD4 := hD3.below hb4
  obtain ⟨mb4, hk4, hm4⟩ := hD4
  have c0 := hk4.c 0 (v := .int .i64 1000) rfl
  have hP4 := hQ.below hb4
  clear hk4
  go_wp2_with (first
    | (go_at_call 195; refine (blocks_any kb 1000 _ ?_).mono ?_; assumption; rintro e w' ⟨rfl, rfl⟩)
    | fail)
  refine (readHead_ok A4 8192 _ hz4).mono ?_
  rintro e W5 ⟨rfl, hb5⟩
  have hP5 := hP4.below hb5
  have hP6 := hP5.alloc (.cells #[.int .u64 0, .int .i64 0] 274)
  have p4 := hP6.c 4 (v := .int .u64 0) rfl
  have n0 := C.new W5 #[.int .u64 0, .int .i64 0] 274 0 (v := .int .u64 0) rfl
  go_wp2_with fail
  go_quiet (fail)
  go_wp2_with fail
  have p4' := p4.drewN nq
  have hbF := below_drewN ((below_then hbW hbW.size (below_chain hb4 hb5)).alloc (below_then hbW hbW.size (below_chain hb4 hb5)).size (.cells #[.int .u64 0, .int .i64 0] 274)) nq
  have hPF := hP6.drewN nq
  rw [rounds_succ]
  go_wp2_with fail
  go_ret2
  exact ⟨_, rfl, hPF, hbF⟩
theorem root_ok (pb kb mb : Nat) (w : World) (h : Blk w pb (pgCells kb mb) 276) : Calls Tryz.prog 158 #[.pointer (some ⟨pb, 0, none⟩)] w fun e w' => e = .returned (.int .i64 0) ∧ w = w' := by
  have c5 := h.c 5 (v := .int .i64 0) rfl
  go_enter Tryz.func158, Tryz.ntmps158
  go_wp2
  go_ret
  exact ⟨rfl, rfl⟩
def trCells (pb m1 m2 : Nat) : Array Value := #[.pointer (some ⟨pb, 0, none⟩), .nilIface, .int .i64 0, .int .i64 0, .nilIface, .int .i64 0, .int .i64 0, .map (some m1), .slice none 0 0, .slice none 0 0, .map (some m2)]
set_option maxHeartbeats 1600000 in
set_option maxRecDepth 100000 in
theorem topen_ok (kb : Nat) (w : World) (h : DiskAt w kb) : Calls Tryz.prog 103 #[.pointer (some ⟨kb, 0, none⟩)] w fun e w' => ∃ tb pb mb m1 m2, e = .returned (.tuple #[.pointer (some ⟨tb, 0, none⟩), .int .i64 0]) ∧ Blk w' tb (trCells pb m1 m2) 231 ∧ Blk w' pb (pgCells kb mb) 276 ∧ Below w.heap.size w w' := by
  have h0 := (h.below ((Below.refl _ _).alloc (Nat.le_refl _) (.cells #[.pointer none] 171)))
  have h1 := (h0.below ((Below.refl _ _).alloc (Nat.le_refl _) (.cells #[.int .i64 0] 37)))
  have hmm := @run_makeMap Tryz.prog
  go_enter_defers Tryz.func103, Tryz.ntmps103
  go_wp2_with fail
  refine (popen_ok kb _ h1).mono ?_
  rintro e W1 ⟨mb, rfl, hP, hb⟩
  have hs0 : ((w.alloc (.cells #[.pointer none] 171)).alloc (.cells #[.int .i64 0] 37)).heap.size = w.heap.size + 2 := by simp
  have hR := ((Blk.new w #[.pointer none] 171).alloc (.cells #[.int .i64 0] 37)).below hb
  have hE := (Blk.new (w.alloc (.cells #[.pointer none] 171)) #[.int .i64 0] 37).below hb
  rw [show (w.alloc (.cells #[.pointer none] 171)).heap.size = w.heap.size + 1 by simp] at hE
  have hbw : Below w.heap.size w W1 := (((Below.refl _ _).alloc (Nat.le_refl _) _).alloc (by simp) _).trans (hb.mono (by simp; omega))
  have f0 := hE.fr 0
  have e0 := hE.c 0 (v := .int .i64 0) rfl
  rw [hs0] at hP ⊢
  clear hb hs0 h0 h1
  have hE1 := hE.set 0 (.int .i64 0)
  have hR1 := hR.set_other (a := ⟨w.heap.size + 1, 0, none⟩) (by simp) (.int .i64 0)
  have hP1 := hP.set_other (a := ⟨w.heap.size + 1, 0, none⟩) (by simp) (.int .i64 0)
  have hbw1 := hbw.setCell (p := ⟨w.heap.size + 1, 0, none⟩) (by simp) (.int .i64 0)
  have e1 := hE1.c 0 (v := .int .i64 0) rfl
  go_upto_region 4 with (fail)
  clear e0 f0 e1 hE hR hP hbw
  generalize W1.setCell ⟨w.heap.size + 1, 0, none⟩ (.int .i64 0) = W2 at *
  have hplt : w.heap.size + 1 < w.heap.size + 2 + 1 := by omega
  generalize w.heap.size + 2 + 1 = pb at *
  have hz : W2.heap.size = W2.heap.size := rfl
  have hA1 := (Below.refl W2.heap.size W2).alloc (Nat.le_refl _) (.map #[] 0)
  have hA2 := hA1.alloc hA1.size (.map #[] 0)
  have hA3 := hA2.alloc hA2.size (.cells #[.pointer (some ⟨pb, 0, none⟩), .nilIface, .int .i64 0, .int .i64 0, .nilIface, .int .i64 0, .int .i64 0, .map (some W2.heap.size), .slice none 0 0, .slice none 0 0, .map (some (W2.heap.size + 1))] 231)
  have hT2 : Blk (((W2.alloc (.map #[] 0)).alloc (.map #[] 0)).alloc (.cells #[.pointer (some ⟨pb, 0, none⟩), .nilIface, .int .i64 0, .int .i64 0, .nilIface, .int .i64 0, .int .i64 0, .map (some W2.heap.size), .slice none 0 0, .slice none 0 0, .map (some (W2.heap.size + 1))] 231)) (W2.heap.size + 1 + 1) (trCells pb W2.heap.size (W2.heap.size + 1)) 231 := by
    have := Blk.new ((W2.alloc (.map #[] 0)).alloc (.map #[] 0)) (trCells pb W2.heap.size (W2.heap.size + 1)) 231
    rw [show ((W2.alloc (.map #[] 0)).alloc (.map #[] 0)).heap.size = W2.heap.size + 1 + 1 by simp] at this
    exact this
  have g0 := (hR1.below hA3).fr 0
  have g1 := (hR1.below hA3).c 0 (v := .pointer none) rfl
  have hR2 := hide ((hR1.below hA3).set 0 (.pointer (some ⟨W2.heap.size + 1 + 1, 0, none⟩)))
  have hE2 := hide ((hE1.below hA3).set_other (a := ⟨w.heap.size, 0, none⟩) (by simp) (.pointer (some ⟨W2.heap.size + 1 + 1, 0, none⟩)))
  have hlt1 := hP1.lt
  have hltR := hR1.lt
  have hltE := hE1.lt
  have hP2 := hide ((hP1.below hA3).set_other (a := ⟨w.heap.size, 0, none⟩) (by simp; omega) (.pointer (some ⟨W2.heap.size + 1 + 1, 0, none⟩)))
  have hT3 := hide (hT2.set_other (a := ⟨w.heap.size, 0, none⟩) (by simp; omega) (.pointer (some ⟨W2.heap.size + 1 + 1, 0, none⟩)))
  have hbw2 := hide ((below_then hbw1 hbw1.size hA3).setCell (p := ⟨w.heap.size, 0, none⟩) (by simp) (.pointer (some ⟨W2.heap.size + 1 + 1, 0, none⟩)))
  clear hA1 hA2 hA3 hT2 hz
  go_upto_region 5 with (fail)
  clear g0 g1 hP1 hR1 hE1 hbw1
  have hR3 := hR2.out
  have hE3 := hE2.out
  have hP3 := hP2.out
  have hT4 := hT3.out
  have hbw3 := hbw2.out
  clear hR2 hE2 hP2 hT3 hbw2
  have htlt : w.heap.size + 1 < W2.heap.size + 1 + 1 := by omega
  clear hltR hltE hlt1
  generalize W2.heap.size + 1 + 1 = tb at *
  generalize (((W2.alloc (.map #[] 0)).alloc (.map #[] 0)).alloc (.cells #[.pointer (some ⟨pb, 0, none⟩), .nilIface, .int .i64 0, .int .i64 0, .nilIface, .int .i64 0, .int .i64 0, .map (some W2.heap.size), .slice none 0 0, .slice none 0 0, .map (some (W2.heap.size + 1))] 231)).setCell ⟨w.heap.size, 0, none⟩ (.pointer (some ⟨tb, 0, none⟩)) = W3 at *
  have r0 := hR3.c 0 (v := .pointer (some ⟨tb, 0, none⟩)) rfl
  have r1 := hR3.fr 0
  have hR4 := hR3.set 0 (.pointer (some ⟨tb, 0, none⟩))
  have hE4 := hE3.set_other (a := ⟨w.heap.size, 0, none⟩) (by simp) (.pointer (some ⟨tb, 0, none⟩))
  have q0 := hE4.c 0 (v := .int .i64 0) rfl
  have q1 := hE4.fr 0
  have hE5 := hE4.set 0 (.int .i64 0)
  have q4 := hE5.c 0 (v := .int .i64 0) rfl
  have hR5 := hR4.set_other (a := ⟨w.heap.size + 1, 0, none⟩) (by simp) (.int .i64 0)
  have r5 := hR5.c 0 (v := .pointer (some ⟨tb, 0, none⟩)) rfl
  have hP5 := hide ((hP3.set_other (a := ⟨w.heap.size, 0, none⟩) (by simp; omega) (.pointer (some ⟨tb, 0, none⟩))).set_other (a := ⟨w.heap.size + 1, 0, none⟩) (by simp; omega) (.int .i64 0))
  have hT5 := hide ((hT4.set_other (a := ⟨w.heap.size, 0, none⟩) (by simp; omega) (.pointer (some ⟨tb, 0, none⟩))).set_other (a := ⟨w.heap.size + 1, 0, none⟩) (by simp; omega) (.int .i64 0))
  have hbw5 := hide ((hbw3.setCell (p := ⟨w.heap.size, 0, none⟩) (by simp) (.pointer (some ⟨tb, 0, none⟩))).setCell (p := ⟨w.heap.size + 1, 0, none⟩) (by simp) (.int .i64 0))
  clear hE4 hE5 hR4 hR5 hbw3 hT4 hE3 hR3
  go_wp2_with (first
    | (go_at_call 158; refine (root_ok _ _ _ _ hP3).mono ?_; rintro e w' ⟨rfl, rfl⟩)
    | fail)
  simp only [bodyPostD]
  simp [Leaves, results, Tryz.results103, go_sem, r5, q4]
  exact ⟨pb, ⟨_, _, hT5.out⟩, ⟨_, hP5.out⟩, hbw5.out⟩
def stCells (tb : Nat) : Array Value := #[.pointer (some ⟨tb, 0, none⟩), .int .i64 0, .int .i64 0, .int .i64 0, .int .i64 0, .int .i64 0, .int .i64 0, .int .i64 0, .int .i64 0, .int .i64 0, .int .i64 0, .int .i64 0, .int .i64 0, .int .i64 0, .int .i64 0, .int .i64 0, .int .i64 0, .int .i64 0]
def Fresh (w : World) (sb : Nat) : Prop := ∃ tb pb kb m1 m2 m3, Blk w sb (stCells tb) 176 ∧ Blk w tb (trCells pb m1 m2) 231 ∧ Blk w pb (pgCells kb m3) 276 ∧ DiskAt w kb
theorem Fresh.below {w w' : World} {sb : Nat} (h : Fresh w sb) (hb : Below w.heap.size w w') : Fresh w' sb := by
  obtain ⟨tb, pb, kb, m1, m2, m3, h1, h2, h3, h4⟩ := h
  exact ⟨tb, pb, kb, m1, m2, m3, h1.below hb, h2.below hb, h3.below hb, h4.below hb⟩
theorem Fresh.alive {w : World} {pb kb m3 : Nat} (h3 : Blk w pb (pgCells kb m3) 276) (h4 : DiskAt w kb) : Alive w pb := by
  obtain ⟨mb, hk, _⟩ := h4
  exact ⟨kb, 0, h3.c 2 rfl, h3.c 3 rfl, hk.c 3 rfl, hk.c 4 rfl⟩
theorem Blk.safe {w : World} {b : Nat} {cs : Array Value} {t : TypeId} (h : Blk w b cs t) (h1 : okT t = true) (h2 : t ≠ 155) (B0 : Nat) : Safe B0 w b := .inr ⟨_, _, _, h, h1, h2⟩
theorem Fresh.store {w : World} {sb : Nat} (h : Fresh w sb) (B0 : Nat) : StoreS B0 w sb := by
  obtain ⟨tb, pb, kb, m1, m2, m3, h1, h2, h3, mb, hk, _⟩ := h
  exact ⟨tb, pb, kb, 0, h1.c 0 rfl, h2.c 0 rfl, h2.c 1 rfl, h3.c 2 rfl, h3.c 3 rfl, hk.c 3 rfl, hk.c 4 rfl, h1.safe (by decide) (by decide) _, h2.safe (by decide) (by decide) _, h3.safe (by decide) (by decide) _, hk.safe (by decide) (by decide) _⟩
set_option maxHeartbeats 1600000 in
set_option maxRecDepth 100000 in
theorem lopen_ok (kb : Nat) (w : World) (h : DiskAt w kb) : Calls Tryz.prog 52 #[.pointer (some ⟨kb, 0, none⟩)] w fun e w' => ∃ sb, e = .returned (.tuple #[.pointer (some ⟨sb, 0, none⟩), .int .i64 0]) ∧ Fresh w' sb ∧ Below w.heap.size w w' := by
  go_enter Tryz.func52, Tryz.ntmps52
  go_wp2_with fail
  refine (topen_ok kb _ h).mono ?_
  rintro e W1 ⟨tb, pb, mb, m1, m2, rfl, hT, hP, hb⟩
  have hD := h.below hb
  have hA := Fresh.alive hP hD
  have hS := hide (Blk.new W1 (stCells tb) 176)
  have hb1 := (Below.refl W1.heap.size W1).alloc (Nat.le_refl _) (.cells (stCells tb) 176)
  have t0 := (hT.below hb1).c 0 (v := .pointer (some ⟨pb, 0, none⟩)) rfl
  have t1 := (hT.below hb1).c 1 (v := .nilIface) rfl
  have hA1 := hA.below hb1
  have HT := hide (hT.below hb1)
  have HP := hide (hP.below hb1)
  have HD := hide (hD.below hb1)
  have HB := hide (below_chain hb hb1)
  clear hT hP hD hb hb1 hA
  go_wp2_with fail
  refine (range_nil tb pb none none 0 0 0 0 _ _ ?_ ?_ ?_ (by omega) (by omega) (by omega)).mono ?_
  · exact t0
  · exact t1
  · exact hA1
  rintro e W2 ⟨rfl, hb2⟩
  have hF : Fresh W2 W1.heap.size := Fresh.below ⟨tb, pb, kb, _, _, _, hS.out, HT.out, HP.out, HD.out⟩ hb2
  have HB2 : Below w.heap.size w W2 := below_chain HB.out hb2
  clear t0 t1 hA1 hb2 HT HP HD HB hS
  go_wp2_with fail
  refine wp_loop_rounds 1 ?_
  rw [rounds_succ]
  go_wp2
  go_ret2
  exact ⟨_, rfl, hF, HB2⟩
theorem dnew_ok (sb : Nat) (w : World) (h : Fresh w sb) : Calls Tryz.prog 53 #[.pointer (some ⟨sb, 0, none⟩)] w fun e w' => ∃ db, e = .returned (.tuple #[.pointer (some ⟨db, 0, none⟩), .int .i64 0]) ∧ w.heap.size ≤ db ∧ Blk w' db #[.pointer (some ⟨sb, 0, none⟩), .slice none 0 0] 136 ∧ Fresh w' sb ∧ Below w.heap.size w w' := by
  have h' := h
  obtain ⟨tb, pb, kb, m1, m2, m3, h1, h2, h3, h4⟩ := h
  have s0 := h1.c 0 (v := .pointer (some ⟨tb, 0, none⟩)) rfl
  have t0 := h2.c 0 (v := .pointer (some ⟨pb, 0, none⟩)) rfl
  have hA := Fresh.alive h3 h4
  go_enter Tryz.func53, Tryz.ntmps53
  go_wp2_with fail
  refine (tdead_any tb pb _ t0 hA).mono ?_
  rintro e w' ⟨rfl, q, rfl⟩
  have hn := Blk.new (w.drewN q) #[.pointer (some ⟨sb, 0, none⟩), .slice none 0 0] 136
  have hb : Below w.heap.size w ((w.drewN q).alloc (.cells #[.pointer (some ⟨sb, 0, none⟩), .slice none 0 0] 136)) := (below_drewN (Below.refl _ _) q).alloc (Nat.le_refl _) _
  have Hn := hide hn
  have Hb := hide hb
  have HF := hide (h'.below hb)
  clear hn hb s0 t0
  go_wp2
  go_ret2
  exact ⟨_, rfl, Nat.le_refl _, Hn.out, HF.out, Hb.out⟩
theorem lnew_ok (w : World) : Calls Tryz.prog 15 #[] w fun e w' => ∃ db sb, e = .returned (.tuple #[.pointer (some ⟨db, 0, none⟩), .pointer (some ⟨sb, 0, none⟩)]) ∧ DraftAt w.heap.size w' db sb [] ∧ Below w.heap.size w w' := by
  go_enter Tryz.func15, Tryz.ntmps15
  go_wp2_with fail
  refine (disknew_ok _).mono ?_
  rintro e W1 ⟨rfl, hD, hb1⟩
  have Hb1 := hide hb1
  generalize w.heap.size + 1 = kb at *
  clear hb1
  go_wp2_with fail
  refine (lopen_ok kb _ hD).mono ?_
  rintro e W2 ⟨sb, rfl, hF, hb2⟩
  go_wp2_with fail
  refine (dnew_ok sb _ hF).mono ?_
  rintro e W3 ⟨db, rfl, hlt, hn, hF3, hb3⟩
  have Hb := hide (below_chain Hb1.out (below_chain hb2 hb3))
  have Hl := hide (Nat.le_trans (below_chain Hb1.out hb2).size hlt)
  have Hn := hide hn
  have HF3 := hide hF3
  clear hb2 hb3 hF hn hF3 hlt hD
  go_wp2
  go_ret2
  refine ⟨db, sb, rfl, ⟨none, 0, [], Hn.out, Hl.out, World.ownsRow_nil _ _ _ _, Els.nil _ _, HF3.out.store _⟩, Hb.out⟩
def GetPost2 (B0 : Nat) (w : World) (L : List Chg) (r : Option (List UInt8)) (e : Ending) (w' : World) : Prop :=
  ∃ A n c, e = .returned (.tuple #[.slice A n c, .bool r.isSome, .int .i64 0]) ∧ (∀ l, r = some l → RdS B0 w' 1 A n (bys l) ∧ n ≤ c) ∧ (r = none → (∀ x ∈ L, x.gone = true → x.val = []) → n = 0) ∧ Below w.heap.size w w'
set_option maxHeartbeats 800000 in
theorem dget2 (B0 db sb : Nat) (L : List Chg) (sp : Int) (A : Option Addr) (n c : Nat) (key : List UInt8) (w : World) (hd : DraftAt B0 w db sb L) (hk : RB w A n key)
    (h : 0 ≤ sp) (h2 : sp < 16) (h3 : 0 < n) (h4 : n ≤ 60) (hval : ∀ x ∈ L, x.val.length ≤ 1800) :
    Calls Tryz.prog 112 #[.pointer (some ⟨db, 0, none⟩), .int .i64 sp, .slice A n c] w (GetPost2 B0 w L (getC L sp key)) := by
  have hd' := hd
  obtain ⟨A1, c1, xs, hd0, hB, hown, hE, hs⟩ := hd
  have g0 := cells_of_blk hd0 0 (v := .pointer (some ⟨sb, 0, none⟩)) rfl
  clear hd0 hown hE
  obtain ⟨r, hr⟩ : ∃ r, lastC L sp key = r := ⟨_, rfl⟩
  have hrm : ∀ x, r = some x → x ∈ L := fun x hx => (by
    rw [hx] at hr
    have := List.mem_of_find?_eq_some hr
    simpa using this)
  have hrv : ∀ x, r = some x → x.val.length ≤ 1800 := fun x hx => hval x (hrm x hx)
  have Hrm := hide hrm
  obtain ⟨R, hR⟩ : ∃ R, getC L sp key = R := ⟨_, rfl⟩
  rw [hR]
  have Hr := hide hr
  have HR := hide hR
  have Hrv := hide hrv
  have Hd := hide hd'
  clear hr hR hrv hrm hd' hval
  go_enter Tryz.func112, Tryz.ntmps112
  go_wp2_with fail
  refine (sget_any sb _ _ _ _ _ _ hs.at_ hk (bys_one key) h h2 h3 h4).mono ?_
  rintro e w1 ⟨rfl, hb1⟩
  go_wp2_with fail
  refine (last_any B0 db sb L _ _ _ _ _ _ (Hd.out.below hb1) (hk.below hb1)).mono ?_
  rintro e w2 ⟨hm, hb2⟩
  rw [Hr.out] at hm
  rcases r with _ | x
  · obtain rfl := hm
    go_wp2
    go_ret3
    refine ⟨none, 0, 0, ?_, fun l hl => ?_, fun _ _ => rfl, ?_⟩
    · rw [← HR.out, getC, Hr.out]; rfl
    · rw [← HR.out, getC, Hr.out] at hl; cases hl
    exact (below_chain hb1 hb2).alloc (below_chain hb1 hb2).size _
  obtain ⟨xs, rfl, KA, kn, kc, VA, vn, vc, rfl, hk1, hv1⟩ := hm
  have hv2 := hv1.below hb2
  have hvl : vn ≤ 1800 := by have := RB.len hv1.rd; have := Hrv.out x rfl; omega
  go_wp2_with fail
  have m2 := C.new w2 #[.int .i64 x.sp, .slice KA kn kc, .slice VA vn vc, .bool x.gone] 155 2 rfl
  have m3 := C.new w2 #[.int .i64 x.sp, .slice KA kn kc, .slice VA vn vc, .bool x.gone] 155 3 rfl
  have hv3 := hv2.alloc (.cells #[.int .i64 x.sp, .slice KA kn kc, .slice VA vn vc, .bool x.gone] 155)
  have hb3 := (below_chain hb1 hb2).alloc (below_chain hb1 hb2).size (.cells #[.int .i64 x.sp, .slice KA kn kc, .slice VA vn vc, .bool x.gone] 155)
  generalize w2.alloc (.cells #[.int .i64 x.sp, .slice KA kn kc, .slice VA vn vc, .bool x.gone] 155) = W at *
  clear hb1 hb2 hv2 hv1 hk1 g0 hs
  go_region_held3 (fun w' => w'.cell? ⟨w2.heap.size, 2, none⟩ = some (.slice VA vn vc) ∧ w'.cell? ⟨w2.heap.size, 3, none⟩ = some (.bool x.gone))
    (first | go_keep | exact ⟨m2.below (undrewd hb4), m3.below (undrewd hb4)⟩)
    ((go_at_call 70; refine (bclone2 _ _ _ x.val _ ?_ (by omega)).mono ?_; exact hv3.rd.drew; rintro e w3 ⟨A3, c3, rfl, hown, hb4⟩))
  go_simp
  go_wp2
  go_ret3
  have hb5 : Below w.heap.size w w3 := below_then hb3 hb3.size (undrewd hb4)
  refine ⟨A3, vn, c3, ?_, fun l hl => ?_, fun hnone hall => ?_, hb5⟩
  · have hsome : R.isSome = !x.gone := by rw [← HR.out]; exact getC_isSome Hr.out
    rw [hsome]
    rfl
  · rw [← HR.out, getC_of Hr.out] at hl
    have hl2 : l = x.val := by
      split at hl
      · cases hl
      injection hl with hl
      exact hl.symm
    subst hl2
    refine ⟨RdS.of_own hown (by decide) (by decide), ?_⟩
    obtain ⟨_, _, hv6, h6, _⟩ := own_form hown
    injection hv6 with _ _ hv6
    omega
  have hgone : x.gone = true := by
    rw [← HR.out, getC_of Hr.out] at hnone
    cases hg : x.gone
    · rw [hg] at hnone; simp at hnone
    rfl
  have h5 := hall x (Hrm.out x rfl) hgone
  have h6 := RB.len hv3.rd
  rw [h5] at h6
  simpa using h6.symm
end Go.Proofs.YtekokogmnhlchaaGreatDoor
