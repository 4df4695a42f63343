import Derived.Test.YtekokogmnhlchaaGreatDoorC2
import Derived.Test.YtekokogmnhlchaaGreatDoorA3
import Derived.Test.YtekokogmnhlchaaGreatDoorA6
import Derived.Test.YtekokogmnhlchaaGreatDoorA4
import Derived.Test.YtekokogmnhlchaaGreatDoorA7
import Derived.Test.YtekokogmnhlchaaGreatDoorA8
import Derived.Test.YtekokogmnhlchaaGreatDoorB5
import Derived.Test.YtekokogmnhlchaaGreatDoorD1
import Derived.Deep.Slices
import Derived.Deep.Strs
import Derived.Carry
import Derived.Laws.Rows
import Derived.Laws.Tables
set_option linter.unusedSimpArgs false
set_option linter.unusedVariables false
set_option linter.unusedSectionVars false
namespace Go.Proofs.YtekokogmnhlchaaGreatDoor
open Go.RowKit Go.ChangeShapes Go.WideShapes
theorem bulk_part {H : Type} {d : DataW H} {l : List (DataW H)} (h : d ∈ l) : Rows.uptoBulk d ≤ Rows.uptoBulkAll l := by
  induction l with
  | nil => cases h
  | cons x r ih =>
    simp only [Rows.uptoBulkAll]
    rcases List.mem_cons.1 h with rfl | e
    · omega
    have := ih e; omega
theorem bulk_one {H : Type} (d : DataW H) : 1 ≤ Rows.uptoBulk d := by
  cases d with
  | lit l => cases l <;> simp [Rows.uptoBulk]
  | nil => simp [Rows.uptoBulk]
  | ptr d => simp [Rows.uptoBulk]
  | slice elems spare => simp [Rows.uptoBulk]
  | agg parts => simp [Rows.uptoBulk]
  | iface t d => simp [Rows.uptoBulk]
  | map entries => simp [Rows.uptoBulk]
  | held h => simp [Rows.uptoBulk]
theorem bulk_length {H : Type} (l : List (DataW H)) : l.length ≤ Rows.uptoBulkAll l := by
  induction l with
  | nil => simp [Rows.uptoBulkAll]
  | cons x r ih => have := bulk_one x; simp only [Rows.uptoBulkAll, List.length_cons]; omega
theorem Els.flat {α : Type} {cells : α → List Value} {k : Nat} {L : List α} {xs : List Value} (h : Els (fun v cs => cs = cells v) k L xs) : xs = L.flatMap cells := by
  obtain ⟨vs, rfl, hl, he⟩ := h
  rw [List.flatMap_def]
  congr 1
  apply List.ext_getElem
  · simp [hl]
  intro i h1 h2
  have := (he i (by omega) h1).2
  rw [List.getElem_map]; exact this
theorem list2 {α : Type} : ∀ (l : List α), l.length = 2 → ∃ a0 a1, l = [a0, a1]
  | [a0, a1], _ => ⟨a0, a1, rfl⟩
theorem list3 {α : Type} : ∀ (l : List α), l.length = 3 → ∃ a0 a1 a2, l = [a0, a1, a2]
  | [a0, a1, a2], _ => ⟨a0, a1, a2, rfl⟩
theorem list9 {α : Type} : ∀ (l : List α), l.length = 9 → ∃ a0 a1 a2 a3 a4 a5 a6 a7 a8, l = [a0, a1, a2, a3, a4, a5, a6, a7, a8]
  | [a0, a1, a2, a3, a4, a5, a6, a7, a8], _ => ⟨a0, a1, a2, a3, a4, a5, a6, a7, a8, rfl⟩
theorem list17 {α : Type} : ∀ (l : List α), l.length = 17 → ∃ a0 a1 a2 a3 a4 a5 a6 a7 a8 a9 a10 a11 a12 a13 a14 a15 a16, l = [a0, a1, a2, a3, a4, a5, a6, a7, a8, a9, a10, a11, a12, a13, a14, a15, a16]
  | [a0, a1, a2, a3, a4, a5, a6, a7, a8, a9, a10, a11, a12, a13, a14, a15, a16], _ => ⟨a0, a1, a2, a3, a4, a5, a6, a7, a8, a9, a10, a11, a12, a13, a14, a15, a16, rfl⟩
section
variable {H : Type} {enc : TypeId × Value → H} {W : World} {sp : Nat → Bool} {held : Bool}
theorem wf_i64 {n : Int} (h : (Lit.int .i64 n).wf = true) : wf64 n := by
  simp only [Lit.wf, Bool.and_eq_true, decide_eq_true_eq] at h
  exact h
theorem trod_els {α : Type} {t e : TypeId} {k : Nat} (ht : Tryz.prog.underlying t = some (.slice e)) (hk : Tryz.prog.cellsOf e = k) (h0 : 0 < k) (R : α → List Value → Nat → Prop)
    (he : ∀ fuel cs x, DataW.trod enc Tryz.prog W 0 sp held fuel e cs = some x → ∃ v : α, R v cs (Rows.uptoBulk x.1)) {fuel : Nat} {cs : List Value} {x : DataW H × List MemPlace} (h : DataW.trod enc Tryz.prog W 0 sp held fuel t cs = some x) :
    ∃ (A : Option Addr) (l : List α) (c : Nat) (xs : List Value), cs = [.slice A l.length c] ∧ l.length ≤ c ∧ RdS W.heap.size W k A l.length xs ∧ Els (fun v cs => ∃ m, R v cs m ∧ m ≤ Rows.uptoBulk x.1) k l xs ∧ l.length ≤ Rows.uptoBulk x.1 := by
  rcases Deep.open_slice ht h with ⟨rfl, rfl⟩ | ⟨a, len, cap, m, n, D, Pl, rfl, hb, hl, hm, hmm, rfl, hx⟩
  · exact ⟨none, [], 0, [], rfl, Nat.le_refl _, RdS.nil _ _ _ _, Els.nil _ _, Nat.zero_le _⟩
  have hlm : len ≤ m := by rw [hmm]; split <;> omega
  have hbk : Rows.uptoBulk (DataW.slice (H := H) ((List.range len).map D) ((List.range (m - len)).map fun j => D (len + j))) = Rows.uptoBulkAll ((List.range len).map D) + Rows.uptoBulkAll ((List.range (m - len)).map fun j => D (len + j)) + 1 := by simp only [Rows.uptoBulk]
  have key : ∀ i : Fin len, ∃ (cs' : List Value) (v : α), cs'.length = k ∧ (∀ j, j < k → W.cell? ((a.add (i.val * k)).add j) = cs'[j]?) ∧ R v cs' (Rows.uptoBulk (D i.val)) := fun i => by
    obtain ⟨cs', h1, h2⟩ := hx i.val (by have := i.isLt; omega)
    rw [hk] at h1
    obtain ⟨_, h3, h4⟩ := World.cells?_some h1
    obtain ⟨v, hv⟩ := he _ _ _ h2
    exact ⟨cs', v, h3, h4, hv⟩
  have hD : ∀ i, i < len → Rows.uptoBulk (D i) ≤ Rows.uptoBulkAll ((List.range len).map D) := fun i hi => bulk_part (List.mem_map.2 ⟨i, List.mem_range.2 hi, rfl⟩)
  have hlen := bulk_length ((List.range len).map D)
  rw [List.length_map, List.length_range] at hlen
  obtain ⟨f, hf⟩ := Classical.axiomOfChoice key
  obtain ⟨g, hg⟩ := Classical.axiomOfChoice hf
  have hEls : Els (fun v cs => ∃ m', R v cs m' ∧ m' ≤ Rows.uptoBulk (DataW.slice (H := H) ((List.range len).map D) ((List.range (m - len)).map fun j => D (len + j)))) k (List.ofFn g) (List.ofFn f).flatten := by
    refine ⟨List.ofFn f, rfl, by simp, fun i h1 h2 => ?_⟩
    simp only [List.length_ofFn] at h1
    have := hg ⟨i, h1⟩
    simp only [List.getElem_ofFn]
    exact ⟨this.1, _, this.2.2, by rw [hbk]; have h9 : Rows.uptoBulk (D (Fin.mk i h1).val) ≤ _ := hD i h1; omega⟩
  have hflen : (List.ofFn g).length = len := by simp
  have hxl := hEls.len
  rw [hflen] at hxl
  refine ⟨some a, List.ofFn g, cap, _, by rw [hflen], by omega, ?_, hEls, by rw [hflen, hbk]; omega⟩
  rw [hflen]
  rcases Nat.eq_zero_or_pos len with rfl | hpos
  · exact ⟨⟨hxl, .inl rfl⟩, .inl rfl⟩
  have hc0 := (hg ⟨0, hpos⟩).2.1 0 h0
  have hcl := (hg ⟨0, hpos⟩).1
  rw [List.getElem?_eq_getElem (by omega)] at hc0
  simp only [Nat.zero_mul] at hc0
  have e0 : (a.add 0).add 0 = a := by simp [Addr.add]
  rw [e0] at hc0
  have hsp := World.cell?_spot hc0
  obtain ⟨b, o, s⟩ := a
  simp only at hsp
  subst hsp
  have hlt : b < W.heap.size := World.block_lt_of_cell? W _ hc0
  refine ⟨⟨hxl, .inr ⟨b, o, rfl, fun j hj => ?_⟩⟩, .inr ⟨b, o, rfl, hlt, .inl hlt⟩⟩
  rw [hxl] at hj
  have hi : j / k < len := by rw [Nat.div_lt_iff_lt_mul h0]; exact hj
  have hr : j % k < k := Nat.mod_lt _ h0
  have hjk : j = j / k * k + j % k := by have := Nat.div_add_mod j k; rw [Nat.mul_comm] at this; omega
  have h1 := (hg ⟨j / k, hi⟩).2.1 (j % k) hr
  rw [Deep.add_add, ← hjk, add_plain] at h1
  rw [h1]
  have hall : ∀ v ∈ List.ofFn f, v.length = k := by
    intro v hv
    obtain ⟨i, rfl⟩ := List.mem_ofFn.1 hv
    exact (hg i).1
  have h2 := flatten_get (List.ofFn f) hall (j / k) (j % k) (by simpa using hi) hr
  rw [← hjk] at h2
  rw [h2]
  simp
theorem trod_V {fuel : Nat} {cs : List Value} {x : DataW H × List MemPlace} (h : DataW.trod enc Tryz.prog W 0 sp held fuel 28 cs = some x) : ∃ v : V, cs = v.cells ∧ wf64 v.k ∧ wf64 v.n ∧ v.s.size ≤ Rows.uptoBulk x.1 := by
  obtain ⟨y0, y1, y2, n, rfl, hl, h0, h1, h2⟩ := Deep.trod_struct3 Tryz.underlying28 h
  rw [show Tryz.prog.cellsOf 28 = 3 by kernel_rfl] at hl
  obtain ⟨c0, c1, c2, rfl⟩ := list3 cs hl
  simp only [show Tryz.prog.cellsOf 3 = 1 by kernel_rfl, show Tryz.prog.cellsOf 9 = 1 by kernel_rfl, List.drop_zero, List.drop_succ_cons, List.take_succ_cons, List.take_zero] at h0 h1 h2
  obtain ⟨k, e0, _, w0⟩ := DataW.trod_int Tryz.underlying3 h0
  obtain ⟨n', e1, _, w1⟩ := DataW.trod_int Tryz.underlying3 h1
  obtain ⟨s, e2, e3, w2⟩ := DataW.trod_string Tryz.underlying9 h2
  cases e0; cases e1; cases e2
  refine ⟨⟨k, n', s⟩, rfl, wf_i64 w0, wf_i64 w1, ?_⟩
  rw [e3, Lib.size_eq]
  simp only [Rows.uptoBulk, Rows.uptoBulkAll]
  omega
theorem trod_Col {fuel : Nat} {cs : List Value} {x : DataW H × List MemPlace} (h : DataW.trod enc Tryz.prog W 0 sp held fuel 49 cs = some x) : ∃ v : Col, cs = v.cells ∧ v.name.size ≤ Rows.uptoBulk x.1 := by
  obtain ⟨y0, y1, y2, n, rfl, hl, h0, h1, h2⟩ := Deep.trod_struct3 Tryz.underlying49 h
  rw [show Tryz.prog.cellsOf 49 = 3 by kernel_rfl] at hl
  obtain ⟨c0, c1, c2, rfl⟩ := list3 cs hl
  simp only [show Tryz.prog.cellsOf 3 = 1 by kernel_rfl, show Tryz.prog.cellsOf 9 = 1 by kernel_rfl, List.drop_zero, List.drop_succ_cons, List.take_succ_cons, List.take_zero] at h0 h1 h2
  obtain ⟨s, e2, e3, w2⟩ := DataW.trod_string Tryz.underlying9 h0
  obtain ⟨k, e0, _, w0⟩ := DataW.trod_int Tryz.underlying3 h1
  obtain ⟨n', e1, _, w1⟩ := DataW.trod_int Tryz.underlying3 h2
  cases e0; cases e1; cases e2
  refine ⟨⟨s, k, n'⟩, rfl, ?_⟩
  rw [e3, Lib.size_eq]
  simp only [Rows.uptoBulk, Rows.uptoBulkAll]
  omega
theorem trod_Ix {fuel : Nat} {cs : List Value} {x : DataW H × List MemPlace} (h : DataW.trod enc Tryz.prog W 0 sp held fuel 68 cs = some x) : ∃ v : Ix, cs = v.cells := by
  obtain ⟨y0, y1, n, rfl, hl, h0, h1⟩ := trod_struct2 Tryz.underlying68 h
  rw [show Tryz.prog.cellsOf 68 = 2 by kernel_rfl] at hl
  obtain ⟨c0, c1, rfl⟩ := list2 cs hl
  simp only [show Tryz.prog.cellsOf 3 = 1 by kernel_rfl, show Tryz.prog.cellsOf 4 = 1 by kernel_rfl, List.drop_zero, List.drop_succ_cons, List.take_succ_cons, List.take_zero] at h0 h1
  obtain ⟨k, e0, _, w0⟩ := DataW.trod_int Tryz.underlying3 h0
  obtain ⟨b, e1, _⟩ := DataW.trod_bool Tryz.underlying4 h1
  cases e0; cases e1
  exact ⟨⟨k, b⟩, rfl⟩
def V.fit (m : Nat) (v : V) : Prop := wf64 v.k ∧ wf64 v.n ∧ v.s.size ≤ m
theorem V.fit.mono {m m' : Nat} {v : V} (h : v.fit m) (hm : m ≤ m') : v.fit m' := ⟨h.1, h.2.1, Nat.le_trans h.2.2 hm⟩
theorem Els.all {α : Type} {P : α → List Value → Prop} {k : Nat} {L : List α} {xs : List Value} {Q : α → Prop} (h : Els P k L xs) (hq : ∀ v cs, P v cs → Q v) : ∀ v ∈ L, Q v := by
  intro v hv
  obtain ⟨i, hi, rfl⟩ := List.getElem_of_mem hv
  obtain ⟨u, _, hp, _⟩ := h.at_ i hi
  exact hq _ _ hp
theorem trod_row {fuel : Nat} {cs : List Value} {x : DataW H × List MemPlace} (h : DataW.trod enc Tryz.prog W 0 sp held fuel 33 cs = some x) :
    ∃ (A : Option Addr) (l : List V) (c : Nat), cs = [.slice A l.length c] ∧ l.length ≤ c ∧ RdS W.heap.size W 3 A l.length (rowCells l) ∧ (∀ v ∈ l, v.fit (Rows.uptoBulk x.1)) ∧ l.length ≤ Rows.uptoBulk x.1 := by
  obtain ⟨A, l, c, xs, rfl, hc, hr, hE, hb⟩ := trod_els (k := 3) Tryz.underlying33 (by kernel_rfl) (by omega) (fun (v : V) cs m => cs = v.cells ∧ v.fit m) (fun fuel cs x h => by
    obtain ⟨v, hv, h1, h2, h3⟩ := trod_V h
    exact ⟨v, hv, h1, h2, h3⟩) h
  have : xs = rowCells l := Els.flat (hE.mono fun v cs _ hv => hv.elim fun m hm => hm.1.1)
  subst this
  exact ⟨A, l, c, rfl, hc, hr, hE.all fun v cs ⟨m, hm, hle⟩ => hm.2.mono hle, hb⟩
def SchI (B0 : Nat) (W : World) (s : Sch) (cs : List Value) : Prop := ∃ CA cc XA xc, cs = [.string s.name, .slice CA s.cols.length cc, .slice XA s.ixs.length xc] ∧ s.cols.length ≤ cc ∧ s.ixs.length ≤ xc ∧
  RdS B0 W 3 CA s.cols.length (s.cols.flatMap Col.cells) ∧ RdS B0 W 2 XA s.ixs.length (s.ixs.flatMap Ix.cells)
def Sch.fit (m : Nat) (s : Sch) : Prop := s.name.size ≤ m ∧ (∀ c ∈ s.cols, c.name.size ≤ m) ∧ s.cols.length ≤ m ∧ s.ixs.length ≤ m
theorem Sch.fit.mono {m m' : Nat} {s : Sch} (h : s.fit m) (hm : m ≤ m') : s.fit m' := ⟨Nat.le_trans h.1 hm, fun c hc => Nat.le_trans (h.2.1 c hc) hm, Nat.le_trans h.2.2.1 hm, Nat.le_trans h.2.2.2 hm⟩
theorem trod_Sch {fuel : Nat} {cs : List Value} {x : DataW H × List MemPlace} (h : DataW.trod enc Tryz.prog W 0 sp held fuel 25 cs = some x) : ∃ s : Sch, SchI W.heap.size W s cs ∧ s.fit (Rows.uptoBulk x.1) := by
  obtain ⟨y0, y1, y2, n, rfl, hl, h0, h1, h2⟩ := Deep.trod_struct3 Tryz.underlying25 h
  rw [show Tryz.prog.cellsOf 25 = 3 by kernel_rfl] at hl
  obtain ⟨c0, c1, c2, rfl⟩ := list3 cs hl
  simp only [show Tryz.prog.cellsOf 22 = 1 by kernel_rfl, show Tryz.prog.cellsOf 23 = 1 by kernel_rfl, show Tryz.prog.cellsOf 9 = 1 by kernel_rfl, List.drop_zero, List.drop_succ_cons, List.take_succ_cons, List.take_zero] at h0 h1 h2
  obtain ⟨s, e2, e3, w2⟩ := DataW.trod_string Tryz.underlying9 h0
  obtain ⟨CA, cols, cc, cx, e4, hcc, hcr, hcE, hcl⟩ := trod_els (k := 3) Tryz.underlying22 (by kernel_rfl) (by omega) (fun (v : Col) cs m => cs = v.cells ∧ v.name.size ≤ m) (fun fuel cs x h => trod_Col h) h1
  obtain ⟨XA, ixs, xc, xx, e5, hxc, hxr, hxE, hxl⟩ := trod_els (k := 2) Tryz.underlying23 (by kernel_rfl) (by omega) (fun (v : Ix) cs _ => cs = v.cells) (fun fuel cs x h => trod_Ix h) h2
  cases e2; cases e4; cases e5
  have q1 : cx = cols.flatMap Col.cells := Els.flat (hcE.mono fun v cs _ hv => hv.elim fun m hm => hm.1.1)
  have q2 : xx = ixs.flatMap Ix.cells := Els.flat (hxE.mono fun v cs _ hv => hv.elim fun m hm => hm.1)
  subst q1 q2
  refine ⟨⟨s, cols, ixs⟩, ⟨CA, cc, XA, xc, rfl, hcc, hxc, hcr, hxr⟩, ?_⟩
  simp only [Rows.uptoBulk, Rows.uptoBulkAll]
  refine ⟨?_, ?_, ?_, ?_⟩
  · rw [e3, Lib.size_eq]; simp only [Rows.uptoBulk]; omega
  · intro c hc
    have := hcE.all (Q := fun c => c.name.size ≤ Rows.uptoBulk y1.1) (fun v cs ⟨m, hm, hle⟩ => Nat.le_trans hm.2 hle) c hc
    omega
  · show cols.length ≤ _; omega
  show ixs.length ≤ _; omega
structure OpV where
  k : Int
  tb : ByteArray
  s : Sch
  row : List V
  key : V
  c : Int
  lo : V
  hi : V
  lim : Int
def OpAt (B0 : Nat) (W : World) (o : OpV) (cs : List Value) : Prop := ∃ CA cc XA xc RA rc, cs = [.int .i64 o.k, .string o.tb, .string o.s.name, .slice CA o.s.cols.length cc, .slice XA o.s.ixs.length xc, .slice RA o.row.length rc,
    .int .i64 o.key.k, .int .i64 o.key.n, .string o.key.s, .int .i64 o.c, .int .i64 o.lo.k, .int .i64 o.lo.n, .string o.lo.s, .int .i64 o.hi.k, .int .i64 o.hi.n, .string o.hi.s, .int .i64 o.lim] ∧
  o.s.cols.length ≤ cc ∧ o.s.ixs.length ≤ xc ∧ o.row.length ≤ rc ∧ RdS B0 W 3 CA o.s.cols.length (o.s.cols.flatMap Col.cells) ∧ RdS B0 W 2 XA o.s.ixs.length (o.s.ixs.flatMap Ix.cells) ∧ RdS B0 W 3 RA o.row.length (rowCells o.row)
structure OpV.fit (m : Nat) (o : OpV) : Prop where
  tb : o.tb.size ≤ m
  s : o.s.fit m
  row : (∀ v ∈ o.row, v.fit m) ∧ o.row.length ≤ m
  key : o.key.fit m
  lo : o.lo.fit m
  hi : o.hi.fit m
  k : wf64 o.k
  c : wf64 o.c
  lim : wf64 o.lim
theorem OpV.fit.mono {m m' : Nat} {o : OpV} (h : o.fit m) (hm : m ≤ m') : o.fit m' :=
  ⟨Nat.le_trans h.tb hm, h.s.mono hm, ⟨fun v hv => (h.row.1 v hv).mono hm, Nat.le_trans h.row.2 hm⟩, h.key.mono hm, h.lo.mono hm, h.hi.mono hm, h.k, h.c, h.lim⟩
theorem trod_Op {fuel : Nat} {cs : List Value} {x : DataW H × List MemPlace} (h : DataW.trod enc Tryz.prog W 0 sp held fuel 35 cs = some x) : ∃ o : OpV, OpAt W.heap.size W o cs ∧ o.fit (Rows.uptoBulk x.1) := by
  obtain ⟨xs, n, _, rfl, hl, hlen, hf⟩ := DataW.trod_struct Tryz.underlying35 h
  rw [show Tryz.prog.cellsOf 35 = 17 by kernel_rfl] at hl
  obtain ⟨y0, y1, y2, y3, y4, y5, y6, y7, y8, rfl⟩ := list9 xs hlen
  obtain ⟨c0, c1, c2, c3, c4, c5, c6, c7, c8, c9, c10, c11, c12, c13, c14, c15, c16, rfl⟩ := list17 cs hl
  have h0 : DataW.trod enc Tryz.prog W 0 sp held n 3 ((List.drop 0 [c0, c1, c2, c3, c4, c5, c6, c7, c8, c9, c10, c11, c12, c13, c14, c15, c16]).take (Tryz.prog.cellsOf 3)) = some y0 := hf 0 _ rfl
  have h1 : DataW.trod enc Tryz.prog W 0 sp held n 9 ((List.drop 1 [c0, c1, c2, c3, c4, c5, c6, c7, c8, c9, c10, c11, c12, c13, c14, c15, c16]).take (Tryz.prog.cellsOf 9)) = some y1 := hf 1 _ rfl
  have h2 : DataW.trod enc Tryz.prog W 0 sp held n 25 ((List.drop 2 [c0, c1, c2, c3, c4, c5, c6, c7, c8, c9, c10, c11, c12, c13, c14, c15, c16]).take (Tryz.prog.cellsOf 25)) = some y2 := hf 2 _ rfl
  have h3 : DataW.trod enc Tryz.prog W 0 sp held n 33 ((List.drop 5 [c0, c1, c2, c3, c4, c5, c6, c7, c8, c9, c10, c11, c12, c13, c14, c15, c16]).take (Tryz.prog.cellsOf 33)) = some y3 := hf 3 _ rfl
  have h4 : DataW.trod enc Tryz.prog W 0 sp held n 28 ((List.drop 6 [c0, c1, c2, c3, c4, c5, c6, c7, c8, c9, c10, c11, c12, c13, c14, c15, c16]).take (Tryz.prog.cellsOf 28)) = some y4 := hf 4 _ rfl
  have h5 : DataW.trod enc Tryz.prog W 0 sp held n 3 ((List.drop 9 [c0, c1, c2, c3, c4, c5, c6, c7, c8, c9, c10, c11, c12, c13, c14, c15, c16]).take (Tryz.prog.cellsOf 3)) = some y5 := hf 5 _ rfl
  have h6 : DataW.trod enc Tryz.prog W 0 sp held n 28 ((List.drop 10 [c0, c1, c2, c3, c4, c5, c6, c7, c8, c9, c10, c11, c12, c13, c14, c15, c16]).take (Tryz.prog.cellsOf 28)) = some y6 := hf 6 _ rfl
  have h7 : DataW.trod enc Tryz.prog W 0 sp held n 28 ((List.drop 13 [c0, c1, c2, c3, c4, c5, c6, c7, c8, c9, c10, c11, c12, c13, c14, c15, c16]).take (Tryz.prog.cellsOf 28)) = some y7 := hf 7 _ rfl
  have h8 : DataW.trod enc Tryz.prog W 0 sp held n 3 ((List.drop 16 [c0, c1, c2, c3, c4, c5, c6, c7, c8, c9, c10, c11, c12, c13, c14, c15, c16]).take (Tryz.prog.cellsOf 3)) = some y8 := hf 8 _ rfl
  simp only [show Tryz.prog.cellsOf 3 = 1 by kernel_rfl, show Tryz.prog.cellsOf 9 = 1 by kernel_rfl, show Tryz.prog.cellsOf 25 = 3 by kernel_rfl, show Tryz.prog.cellsOf 33 = 1 by kernel_rfl, show Tryz.prog.cellsOf 28 = 3 by kernel_rfl, List.drop_zero, List.drop_succ_cons, List.take_succ_cons, List.take_zero] at h0 h1 h2 h3 h4 h5 h6 h7 h8
  obtain ⟨k, e0, _, w0⟩ := DataW.trod_int Tryz.underlying3 h0
  obtain ⟨tb, e1, e1', _⟩ := DataW.trod_string Tryz.underlying9 h1
  obtain ⟨s, ⟨CA, cc, XA, xc, e2, s1, s2, s3, s4⟩, s5⟩ := trod_Sch h2
  obtain ⟨RA, row, rc, e3, r1, r2, r3, r4⟩ := trod_row h3
  obtain ⟨key, e4, k1, k2, k3⟩ := trod_V h4
  obtain ⟨c, e5, _, w5⟩ := DataW.trod_int Tryz.underlying3 h5
  obtain ⟨lo, e6, l1, l2, l3⟩ := trod_V h6
  obtain ⟨hi, e7, m1, m2, m3⟩ := trod_V h7
  obtain ⟨lim, e8, _, w8⟩ := DataW.trod_int Tryz.underlying3 h8
  simp only [V.cells] at e4 e6 e7
  cases e0; cases e1; cases e2; cases e3; cases e4; cases e5; cases e6; cases e7; cases e8
  have hb : Rows.uptoBulk (DataW.agg (H := H) (List.map (fun x => x.1) [y0, y1, y2, y3, y4, y5, y6, y7, y8])) = Rows.uptoBulk y0.1 + (Rows.uptoBulk y1.1 + (Rows.uptoBulk y2.1 + (Rows.uptoBulk y3.1 + (Rows.uptoBulk y4.1 + (Rows.uptoBulk y5.1 + (Rows.uptoBulk y6.1 + (Rows.uptoBulk y7.1 + (Rows.uptoBulk y8.1 + 0)))))))) + 1 := by simp only [Rows.uptoBulk, Rows.uptoBulkAll, List.map]
  refine ⟨⟨k, tb, s, row, key, c, lo, hi, lim⟩, ⟨CA, cc, XA, xc, RA, rc, rfl, s1, s2, r1, s3, s4, r2⟩, ?_⟩
  simp only
  rw [hb]
  have htb : tb.size ≤ Rows.uptoBulk y1.1 := by rw [e1', Lib.size_eq]; simp only [Rows.uptoBulk]; omega
  exact ⟨by show tb.size ≤ _; omega, s5.mono (by omega), ⟨fun v hv => (r3 v hv).mono (by omega), by show row.length ≤ _; omega⟩, V.fit.mono ⟨k1, k2, k3⟩ (by omega), V.fit.mono ⟨l1, l2, l3⟩ (by omega), V.fit.mono ⟨m1, m2, m3⟩ (by omega), wf_i64 w0, wf_i64 w5, wf_i64 w8⟩
def OpsAt (B0 : Nat) (W : World) (A : Option Addr) (n : Nat) (l : List OpV) : Prop := l.length = n ∧ ∃ xs, RdS B0 W 17 A n xs ∧ Els (OpAt B0 W) 17 l xs
theorem trod_ops {fuel : Nat} {cs : List Value} {x : DataW H × List MemPlace} (h : DataW.trod enc Tryz.prog W 0 sp held fuel 52 cs = some x) :
    ∃ (A : Option Addr) (l : List OpV) (c : Nat), cs = [.slice A l.length c] ∧ l.length ≤ c ∧ OpsAt W.heap.size W A l.length l ∧ (∀ o ∈ l, o.fit (Rows.uptoBulk x.1)) ∧ l.length ≤ Rows.uptoBulk x.1 := by
  obtain ⟨A, l, c, xs, rfl, hc, hr, hE, hb⟩ := trod_els (k := 17) Tryz.underlying52 (by kernel_rfl) (by omega) (fun (v : OpV) cs m => OpAt W.heap.size W v cs ∧ v.fit m) (fun fuel cs x h => trod_Op h) h
  exact ⟨A, l, c, rfl, hc, ⟨rfl, xs, hr, hE.mono fun v cs _ ⟨m, hm, _⟩ => hm.1⟩, hE.all fun v cs ⟨m, hm, hle⟩ => hm.2.mono hle, hb⟩
end
end Go.Proofs.YtekokogmnhlchaaGreatDoor
namespace Go.Proofs.YtekokogmnhlchaaGreatDoor
open Go.RowKit
theorem Blk.setRow {w : World} {b : Nat} {cs : Array Value} {t : TypeId} (h : Blk w b cs t) (cs' : Array Value) : Blk (w.setRow b cs') b cs' t := setRow_heap w b cs cs' t (0, 0) h
theorem heap_setRow_ne (w : World) (b : Nat) (cs : Array Value) (k : Nat) (hk : k ≠ b) : (w.setRow b cs).heap[k]? = w.heap[k]? := by
  simp only [World.setRow, Array.getElem?_modify]
  rw [if_neg (fun e => hk e.symm)]
theorem size_setRow (w : World) (b : Nat) (cs : Array Value) : (w.setRow b cs).heap.size = w.heap.size := by simp [World.setRow]
theorem Below.setRow {B b : Nat} {w0 w : World} (h : Below B w0 w) (hb : B ≤ b) (cs : Array Value) : Below B w0 (w.setRow b cs) :=
  ⟨h.os, h.tape, h.output, by rw [size_setRow]; exact h.size, fun k hk => (heap_setRow_ne w b cs k (by omega)).trans (h.block k hk)⟩
theorem oper_load_row {P : Program} {w : World} {o : Oper} {a : Act} {K : Act → World → Prop} {Q : Exit → Act → World → Prop} {ty : TypeId} {x : Operand} {b : Nat} {cs : Array Value} {t : TypeId} {d : TypeDesc}
    (ho : o.op = .load ty x) (hx : a.eval x = .pointer (some ⟨b, 0, none⟩)) (hb : Blk w b cs t) (hu : P.underlying ty = some d) (hd : (match d with | .struct _ | .array _ _ => true | _ => false) = true) (hi : (P.info? ty).map (·.size) = some cs.size)
    (h : K (a.put o.dst (.agg cs)) w) : o.wp P a w K Q := by
  have hrun := run_loadVar_row (P := P) w b t ty cs (0, 0) d hb hu hd hi
  unfold Oper.wp execOp
  simp only [ho, hx, Instr.loadAt, Instr.sureAddr, Sem.run_bind, Sem.run_pure, Result.andThen_ok, hrun]
  exact h
theorem oper_store_row {P : Program} {w : World} {o : Oper} {a : Act} {K : Act → World → Prop} {Q : Exit → Act → World → Prop} {ty : TypeId} {x y : Operand} {b : Nat} {old cs : Array Value} {t : TypeId}
    (ho : o.op = .store ty x y) (hx : a.eval x = .pointer (some ⟨b, 0, none⟩)) (hy : a.eval y = .agg cs) (hb : Blk w b old t) (hi : (P.info? ty).map (·.size) = some cs.size) (hs : old.size = cs.size) (h1 : cs.all (·.oneCell') = true)
    (h : K (a.put o.dst undef) (w.setRow b cs)) : o.wp P a w K Q := by
  have hrun := run_storeVar_row (P := P) w b t ty old cs hb hi hs h1
  unfold Oper.wp execOp
  simp only [ho, hx, hy, Instr.storeAt, Instr.sureAddr, Sem.run_bind, Sem.run_pure, Result.andThen_ok, hrun]
  simpa [Oper.upon] using h
def cut4 (o : OpV) : OpV := { o with row := o.row.take 4, s := ⟨o.s.name, o.s.cols.take 4, o.s.ixs.take 4⟩ }
def NewS (B0 N : Nat) (W : World) (k : Nat) (A : Option Addr) (n : Nat) (xs : List Value) : Prop := RdS B0 W k A n xs ∧ ∀ b o, A = some ⟨b, o, none⟩ → N ≤ b
theorem NewS.set {B0 N : Nat} {W : World} {k n : Nat} {A : Option Addr} {xs : List Value} (h : NewS B0 N W k A n xs) {p : Addr} (hp : p.block < N) (v : Value) : NewS B0 N (W.setCell p v) k A n xs := by
  refine ⟨⟨⟨h.1.1.1, ?_⟩, ?_⟩, h.2⟩
  · rcases h.1.1.2 with h0 | ⟨b, o, rfl, hc⟩
    · exact .inl h0
    have hb := h.2 b o rfl
    exact .inr ⟨b, o, rfl, fun j hj => (World.cell?_of_block (w := W) (w' := W.setCell p v) (a := ⟨b, o + j, none⟩) (Below.heap_setCell W p v b (by omega))).trans (hc j hj)⟩
  rcases h.1.2 with h0 | ⟨b, o, rfl, hlt, hs⟩
  · exact .inl h0
  have hb := h.2 b o rfl
  exact .inr ⟨b, o, rfl, by simpa [World.setCell] using hlt, hs.move (Below.heap_setCell W p v b (by omega))⟩
theorem NewS.below {B0 N : Nat} {W W' : World} {k n : Nat} {A : Option Addr} {xs : List Value} (h : NewS B0 N W k A n xs) (hb : Below W.heap.size W W') : NewS B0 N W' k A n xs := ⟨h.1.below hb, h.2⟩
theorem NewS.grown {B0 N : Nat} {W W' : World} {k n : Nat} {A : Option Addr} {xs : List Value} (h : NewS B0 N W k A n xs) (hg : W.grownBy W' none) : NewS B0 N W' k A n xs := h.below ((Below.refl _ _).grown hg (Nat.le_refl _) (by simp))
theorem new_of {B0 base e k n c : Nat} {W W5 : World} {A : Option Addr} {xs : List Value} (h : W5.ownsRow base e k (.slice A n c) n xs) (h1 : okT e = true) (h2 : e ≠ 155) (hat : (Value.slice A n c).ownBlock = (Value.slice none 0 0).ownBlock ∨ (Value.slice A n c).ownBlock = some W.heap.size) : NewS B0 W.heap.size W5 k A n xs := by
  refine ⟨RdS.of_own h h1 h2, fun b o hA => ?_⟩
  subst hA
  rcases hat with hat | hat
  · simp [Value.ownBlock] at hat
  simp [Value.ownBlock] at hat; omega
theorem NewS.row {B0 N b : Nat} {W : World} {k n : Nat} {A : Option Addr} {xs : List Value} (h : NewS B0 N W k A n xs) (hp : b < N) (cs : Array Value) : NewS B0 N (W.setRow b cs) k A n xs := by
  refine ⟨⟨⟨h.1.1.1, ?_⟩, ?_⟩, h.2⟩
  · rcases h.1.1.2 with h0 | ⟨b', o, rfl, hc⟩
    · exact .inl h0
    have hb := h.2 b' o rfl
    exact .inr ⟨b', o, rfl, fun j hj => (World.cell?_of_block (w := W) (w' := W.setRow b cs) (a := ⟨b', o + j, none⟩) (heap_setRow_ne W b cs b' (by omega))).trans (hc j hj)⟩
  rcases h.1.2 with h0 | ⟨b', o, rfl, hlt, hs⟩
  · exact .inl h0
  have hb := h.2 b' o rfl
  exact .inr ⟨b', o, rfl, by rw [size_setRow]; exact hlt, hs.move (heap_setRow_ne W b cs b' (by omega))⟩
theorem take_min {α : Type} (l : List α) (n : Nat) (h : l.length = n) : l.take (min (n : Int) 4).toNat = l.take 4 := by
  by_cases h4 : n ≤ 4
  · rw [List.take_of_length_le (by omega), List.take_of_length_le (by omega)]
  rw [show (min (n : Int) 4).toNat = 4 by omega]
theorem col_one (l : List Col) : ∀ u ∈ l.flatMap Col.cells, u.oneCell' = true := by
  intro u hu
  obtain ⟨c, _, h⟩ := List.mem_flatMap.1 hu
  simp only [Col.cells, List.mem_cons, List.mem_nil_iff, or_false] at h
  rcases h with rfl | rfl | rfl <;> rfl
theorem ix_one (l : List Ix) : ∀ u ∈ l.flatMap Ix.cells, u.oneCell' = true := by
  intro u hu
  obtain ⟨c, _, h⟩ := List.mem_flatMap.1 hu
  simp only [Ix.cells, List.mem_cons, List.mem_nil_iff, or_false] at h
  rcases h with rfl | rfl <;> rfl
set_option maxHeartbeats 3200000 in
set_option maxRecDepth 1000000 in
theorem op_any (B0 : Nat) (o : OpV) (cs : List Value) (w : World) (h : OpAt B0 w o cs) :
    Calls Tryz.prog 16 #[.agg cs.toArray] w fun e w' => ∃ cs', e = .returned (.agg cs'.toArray) ∧ OpAt B0 w' (cut4 o) cs' ∧ Below w.heap.size w w' := by
  obtain ⟨CA, cc, XA, xc, RA, rc, rfl, h1, h2, h3, hC, hX, hR⟩ := h
  obtain ⟨k, tb, ⟨nm, cols, ixs⟩, row, K, c, lo, hi, lim⟩ := o
  simp only at h1 h2 h3 hC hX hR ⊢
  have hR4 := Rd.take_ V.cells_len row rfl hR.rd (min (row.length : Int) 4).toNat (by omega)
  have hC4 := Rd.take_ Col.cells_len cols rfl hC.rd (min (cols.length : Int) 4).toNat (by omega)
  have hX4 := Rd.take_ Ix.cells_len ixs rfl hX.rd (min (ixs.length : Int) 4).toNat (by omega)
  rw [take_min row _ rfl] at hR4
  rw [take_min cols _ rfl] at hC4
  rw [take_min ixs _ rfl] at hX4
  obtain ⟨nr, hnr⟩ : ∃ nr, row.length = nr := ⟨_, rfl⟩
  obtain ⟨nc, hnc⟩ : ∃ nc, cols.length = nc := ⟨_, rfl⟩
  obtain ⟨nx, hnx⟩ : ∃ nx, ixs.length = nx := ⟨_, rfl⟩
  rw [hnr] at h3 hR4 ⊢
  rw [hnc] at h1 hC4 ⊢
  rw [hnx] at h2 hX4 ⊢
  have hb0 := ((Below.refl w.heap.size w).alloc (Nat.le_refl _) (.cells #[.int .i64 k, .string tb, .string nm, .slice CA nc cc, .slice XA nx xc, .slice RA nr rc, .int .i64 K.k, .int .i64 K.n, .string K.s, .int .i64 c, .int .i64 lo.k, .int .i64 lo.n, .string lo.s, .int .i64 hi.k, .int .i64 hi.n, .string hi.s, .int .i64 lim] 35))
  have hb1 := hb0.alloc hb0.size (.cells #[.int .i64 0, .string ⟨#[]⟩, .string ⟨#[]⟩, .slice none 0 0, .slice none 0 0, .slice none 0 0, .int .i64 0, .int .i64 0, .string ⟨#[]⟩, .int .i64 0, .int .i64 0, .int .i64 0, .string ⟨#[]⟩, .int .i64 0, .int .i64 0, .string ⟨#[]⟩, .int .i64 0] 35)
  have hk1 := (Blk.new w #[.int .i64 k, .string tb, .string nm, .slice CA nc cc, .slice XA nx xc, .slice RA nr rc, .int .i64 K.k, .int .i64 K.n, .string K.s, .int .i64 c, .int .i64 lo.k, .int .i64 lo.n, .string lo.s, .int .i64 hi.k, .int .i64 hi.n, .string hi.s, .int .i64 lim] 35)
  have e1 : (w.alloc (.cells #[.int .i64 k, .string tb, .string nm, .slice CA nc cc, .slice XA nx xc, .slice RA nr rc, .int .i64 K.k, .int .i64 K.n, .string K.s, .int .i64 c, .int .i64 lo.k, .int .i64 lo.n, .string lo.s, .int .i64 hi.k, .int .i64 hi.n, .string hi.s, .int .i64 lim] 35)).heap.size = w.heap.size + 1 := by simp
  have hk2 := Blk.new (w.alloc (.cells #[.int .i64 k, .string tb, .string nm, .slice CA nc cc, .slice XA nx xc, .slice RA nr rc, .int .i64 K.k, .int .i64 K.n, .string K.s, .int .i64 c, .int .i64 lo.k, .int .i64 lo.n, .string lo.s, .int .i64 hi.k, .int .i64 hi.n, .string hi.s, .int .i64 lim] 35)) #[.int .i64 0, .string ⟨#[]⟩, .string ⟨#[]⟩, .slice none 0 0, .slice none 0 0, .slice none 0 0, .int .i64 0, .int .i64 0, .string ⟨#[]⟩, .int .i64 0, .int .i64 0, .int .i64 0, .string ⟨#[]⟩, .int .i64 0, .int .i64 0, .string ⟨#[]⟩, .int .i64 0] 35
  rw [e1] at hk2
  obtain ⟨W0, hW0⟩ : ∃ W0, (w.alloc (.cells #[.int .i64 k, .string tb, .string nm, .slice CA nc cc, .slice XA nx xc, .slice RA nr rc, .int .i64 K.k, .int .i64 K.n, .string K.s, .int .i64 c, .int .i64 lo.k, .int .i64 lo.n, .string lo.s, .int .i64 hi.k, .int .i64 hi.n, .string hi.s, .int .i64 lim] 35)).alloc (.cells #[.int .i64 0, .string ⟨#[]⟩, .string ⟨#[]⟩, .slice none 0 0, .slice none 0 0, .slice none 0 0, .int .i64 0, .int .i64 0, .string ⟨#[]⟩, .int .i64 0, .int .i64 0, .int .i64 0, .string ⟨#[]⟩, .int .i64 0, .int .i64 0, .string ⟨#[]⟩, .int .i64 0] 35) = W0 := ⟨_, rfl⟩
  have hk1' := hk1.alloc (.cells #[.int .i64 0, .string ⟨#[]⟩, .string ⟨#[]⟩, .slice none 0 0, .slice none 0 0, .slice none 0 0, .int .i64 0, .int .i64 0, .string ⟨#[]⟩, .int .i64 0, .int .i64 0, .int .i64 0, .string ⟨#[]⟩, .int .i64 0, .int .i64 0, .string ⟨#[]⟩, .int .i64 0] 35)
  rw [hW0] at hb1 hk1' hk2
  have HB0 := hide hb1
  have HK1 := hide hk1'
  have HK2 := hide hk2
  have HR4 := hide (hR4.below hb1)
  have HC4 := hide hC4
  have HX4 := hide hX4
  have m3 := hk1'.c 3 (v := .slice CA nc cc) rfl
  have m4 := hk1'.c 4 (v := .slice XA nx xc) rfl
  have m5 := hk1'.c 5 (v := .slice RA nr rc) rfl
  have hw1 : w.heap.size + 1 < W0.heap.size := hk2.lt
  have Hnr := hide hnr
  have Hnc := hide hnc
  have Hnx := hide hnx
  clear hb0 hb1 hk1 hk1' hk2 e1 hR4 hC4 hX4 hC hX hR hnr hnc hnx
  go_enter Tryz.func16, Tryz.ntmps16
  go_upto_region 5 with (first
    | (at_builtin; refine wp_app (base := w.heap.size) (n := 0) (xs := []) valT rfl rfl (World.ownsRow_nil _ _ _ _) rfl HR4.out rfl (rowCells_one _) (by omega) (by omega) (by omega) ?_; intro A5 c5 w5 hown5 hb5 hg5 hat5; have N5 := hide (new_of (B0 := B0) hown5 (by decide) (by decide) hat5); have L5 := hide (own_form hown5); have K15 := HK1.out.far hg5 (by simp [Value.ownBlock]); have K25 := hide (HK2.out.far hg5 (by simp [Value.ownBlock])); have G5 := hide hg5; have q5 := K15.c 5 (v := .slice RA nr rc) rfl; have f5 := K15.fr 5; have K15 := hide K15; have HB5 := hide hb5; clear hown5 hb5 hat5 hg5)
    | fail)
  rw [Nat.zero_add] at N5 L5
  have hL5 : (min (nr : Int) 4).toNat ≤ c5 := by
    obtain ⟨A', c', he, hle, _⟩ := L5.out
    injection he with _ _ he
    omega
  have J5 := K15.out.set 5 (.slice A5 (min (nr : Int) 4).toNat c5)
  have J5 : Blk _ w.heap.size #[.int .i64 k, .string tb, .string nm, .slice CA nc cc, .slice XA nx xc, .slice A5 (min (nr : Int) 4).toNat c5, .int .i64 K.k, .int .i64 K.n, .string K.s, .int .i64 c, .int .i64 lo.k, .int .i64 lo.n, .string lo.s, .int .i64 hi.k, .int .i64 hi.n, .string hi.s, .int .i64 lim] 35 := J5
  have I5 := K25.out.set_other (a := ⟨w.heap.size, 5, none⟩) (by show w.heap.size + 1 ≠ w.heap.size; omega) (.slice A5 (min (nr : Int) 4).toNat c5)
  have P5 := hide (NewS.set N5.out (p := ⟨w.heap.size, 5, none⟩) (by show w.heap.size < _; omega) (.slice A5 (min (nr : Int) 4).toNat c5))
  have z5 := HB5.out.size
  have B5 := hide ((HB0.out.trans HB5.out).setCell (p := ⟨w.heap.size, 5, none⟩) (Nat.le_refl _) (.slice A5 (min (nr : Int) 4).toNat c5))
  generalize hV5 : w5.setCell ⟨w.heap.size, 5, none⟩ (.slice A5 (min (nr : Int) 4).toNat c5) = V5 at *
  as_aux_lemma =>
    have HK1 := hide J5
    have HK2 := hide I5
    have HC4 := hide (HC4.out.below B5.out)
    have m3 := J5.c 3 (v := .slice CA nc cc) rfl
    have hz5 : W0.heap.size ≤ V5.heap.size := by rw [← hV5]; simpa [World.setCell] using z5
    clear m4 m5 q5 f5 J5 I5 K15 K25 L5 N5 HB5 G5
    go_upto_region 6 with (first
      | (at_builtin; refine wp_app (base := w.heap.size) (n := 0) (xs := []) colT rfl rfl (World.ownsRow_nil _ _ _ _) rfl HC4.out rfl (col_one _) (by omega) (by omega) (by omega) ?_; intro A6 c6 w6 hown6 hb6 hg6 hat6; have N6 := hide (new_of (B0 := B0) hown6 (by decide) (by decide) hat6); have L6 := hide (own_form hown6); have K16 := HK1.out.far hg6 (by simp [Value.ownBlock]); have K26 := hide (HK2.out.far hg6 (by simp [Value.ownBlock])); have G6 := hide hg6; have q6 := K16.c 3 (v := .slice CA nc cc) rfl; have f6 := K16.fr 3; have K16 := hide K16; have HB6 := hide hb6; clear hown6 hb6 hat6 hg6)
      | fail)
    rw [Nat.zero_add] at N6 L6
    have hL6 : (min (nc : Int) 4).toNat ≤ c6 := by
      obtain ⟨A', c', he, hle, _⟩ := L6.out
      injection he with _ _ he
      omega
    have J6 := K16.out.set 3 (.slice A6 (min (nc : Int) 4).toNat c6)
    have J6 : Blk _ w.heap.size #[.int .i64 k, .string tb, .string nm, .slice A6 (min (nc : Int) 4).toNat c6, .slice XA nx xc, .slice A5 (min (nr : Int) 4).toNat c5, .int .i64 K.k, .int .i64 K.n, .string K.s, .int .i64 c, .int .i64 lo.k, .int .i64 lo.n, .string lo.s, .int .i64 hi.k, .int .i64 hi.n, .string hi.s, .int .i64 lim] 35 := J6
    have I6 := K26.out.set_other (a := ⟨w.heap.size, 3, none⟩) (by show w.heap.size + 1 ≠ w.heap.size; omega) (.slice A6 (min (nc : Int) 4).toNat c6)
    have P6 := hide (NewS.set N6.out (p := ⟨w.heap.size, 3, none⟩) (by show w.heap.size < _; omega) (.slice A6 (min (nc : Int) 4).toNat c6))
    have z6 := HB6.out.size
    have B6 := hide ((B5.out.trans HB6.out).setCell (p := ⟨w.heap.size, 3, none⟩) (Nat.le_refl _) (.slice A6 (min (nc : Int) 4).toNat c6))
    have P5 := hide (NewS.set (P5.out.grown G6.out) (p := ⟨w.heap.size, 3, none⟩) (by show w.heap.size < _; omega) (.slice A6 (min (nc : Int) 4).toNat c6))
    generalize hV6 : w6.setCell ⟨w.heap.size, 3, none⟩ (.slice A6 (min (nc : Int) 4).toNat c6) = V6 at *
    as_aux_lemma =>
      have HK1 := hide J6
      have HK2 := hide I6
      have HX4 := hide (HX4.out.below B6.out)
      have m4 := J6.c 4 (v := .slice XA nx xc) rfl
      have hz6 : V5.heap.size ≤ V6.heap.size := by rw [← hV6]; simpa [World.setCell] using z6
      clear m3 q6 f6 J6 I6 K16 K26 L6 N6 HB6 G6
      go_upto_region 7 with (first
        | (at_builtin; refine wp_app (base := w.heap.size) (n := 0) (xs := []) ixT rfl rfl (World.ownsRow_nil _ _ _ _) rfl HX4.out rfl (ix_one _) (by omega) (by omega) (by omega) ?_; intro A7 c7 w7 hown7 hb7 hg7 hat7; have N7 := hide (new_of (B0 := B0) hown7 (by decide) (by decide) hat7); have L7 := hide (own_form hown7); have K17 := HK1.out.far hg7 (by simp [Value.ownBlock]); have K27 := hide (HK2.out.far hg7 (by simp [Value.ownBlock])); have G7 := hide hg7; have q7 := K17.c 4 (v := .slice XA nx xc) rfl; have f7 := K17.fr 4; have K17 := hide K17; have HB7 := hide hb7; clear hown7 hb7 hat7 hg7)
        | fail)
      rw [Nat.zero_add] at N7 L7
      have hL7 : (min (nx : Int) 4).toNat ≤ c7 := by
        obtain ⟨A', c', he, hle, _⟩ := L7.out
        injection he with _ _ he
        omega
      have J7 := K17.out.set 4 (.slice A7 (min (nx : Int) 4).toNat c7)
      have J7 : Blk _ w.heap.size #[.int .i64 k, .string tb, .string nm, .slice A6 (min (nc : Int) 4).toNat c6, .slice A7 (min (nx : Int) 4).toNat c7, .slice A5 (min (nr : Int) 4).toNat c5, .int .i64 K.k, .int .i64 K.n, .string K.s, .int .i64 c, .int .i64 lo.k, .int .i64 lo.n, .string lo.s, .int .i64 hi.k, .int .i64 hi.n, .string hi.s, .int .i64 lim] 35 := J7
      have I7 := K27.out.set_other (a := ⟨w.heap.size, 4, none⟩) (by show w.heap.size + 1 ≠ w.heap.size; omega) (.slice A7 (min (nx : Int) 4).toNat c7)
      have P7 := hide (NewS.set N7.out (p := ⟨w.heap.size, 4, none⟩) (by show w.heap.size < _; omega) (.slice A7 (min (nx : Int) 4).toNat c7))
      have z7 := HB7.out.size
      have B7 := hide ((B6.out.trans HB7.out).setCell (p := ⟨w.heap.size, 4, none⟩) (Nat.le_refl _) (.slice A7 (min (nx : Int) 4).toNat c7))
      have P5 := hide (NewS.set (P5.out.grown G7.out) (p := ⟨w.heap.size, 4, none⟩) (by show w.heap.size < _; omega) (.slice A7 (min (nx : Int) 4).toNat c7))
      have P6 := hide (NewS.set (P6.out.grown G7.out) (p := ⟨w.heap.size, 4, none⟩) (by show w.heap.size < _; omega) (.slice A7 (min (nx : Int) 4).toNat c7))
      generalize hV7 : w7.setCell ⟨w.heap.size, 4, none⟩ (.slice A7 (min (nx : Int) 4).toNat c7) = V7 at *
      have HK1 := hide J7
      have HK2 := hide I7
      clear m4 q7 f7 J7 I7 K17 K27 L7 N7 HB7 G7
      as_aux_lemma =>
        clear hV5 hV6 hV7 hW0
        have hB := Below.setRow B7.out (Nat.le_succ _) #[.int .i64 k, .string tb, .string nm, .slice A6 (min (nc : Int) 4).toNat c6, .slice A7 (min (nx : Int) 4).toNat c7, .slice A5 (min (nr : Int) 4).toNat c5, .int .i64 K.k, .int .i64 K.n, .string K.s, .int .i64 c, .int .i64 lo.k, .int .i64 lo.n, .string lo.s, .int .i64 hi.k, .int .i64 hi.n, .string hi.s, .int .i64 lim]
        have hK := HK2.out.setRow #[.int .i64 k, .string tb, .string nm, .slice A6 (min (nc : Int) 4).toNat c6, .slice A7 (min (nx : Int) 4).toNat c7, .slice A5 (min (nr : Int) 4).toNat c5, .int .i64 K.k, .int .i64 K.n, .string K.s, .int .i64 c, .int .i64 lo.k, .int .i64 lo.n, .string lo.s, .int .i64 hi.k, .int .i64 hi.n, .string hi.s, .int .i64 lim]
        have hP5 := NewS.row P5.out hw1 #[.int .i64 k, .string tb, .string nm, .slice A6 (min (nc : Int) 4).toNat c6, .slice A7 (min (nx : Int) 4).toNat c7, .slice A5 (min (nr : Int) 4).toNat c5, .int .i64 K.k, .int .i64 K.n, .string K.s, .int .i64 c, .int .i64 lo.k, .int .i64 lo.n, .string lo.s, .int .i64 hi.k, .int .i64 hi.n, .string hi.s, .int .i64 lim]
        have hP6 := NewS.row P6.out (show w.heap.size + 1 < V5.heap.size by omega) #[.int .i64 k, .string tb, .string nm, .slice A6 (min (nc : Int) 4).toNat c6, .slice A7 (min (nx : Int) 4).toNat c7, .slice A5 (min (nr : Int) 4).toNat c5, .int .i64 K.k, .int .i64 K.n, .string K.s, .int .i64 c, .int .i64 lo.k, .int .i64 lo.n, .string lo.s, .int .i64 hi.k, .int .i64 hi.n, .string hi.s, .int .i64 lim]
        have hP7 := NewS.row P7.out (show w.heap.size + 1 < V6.heap.size by omega) #[.int .i64 k, .string tb, .string nm, .slice A6 (min (nc : Int) 4).toNat c6, .slice A7 (min (nx : Int) 4).toNat c7, .slice A5 (min (nr : Int) 4).toNat c5, .int .i64 K.k, .int .i64 K.n, .string K.s, .int .i64 c, .int .i64 lo.k, .int .i64 lo.n, .string lo.s, .int .i64 hi.k, .int .i64 hi.n, .string hi.s, .int .i64 lim]
        have d0 := hK.c 0 (v := .int .i64 k) rfl
        have d1 := hK.c 1 (v := .string tb) rfl
        have d2 := hK.c 2 (v := .string nm) rfl
        have d3 := hK.c 3 (v := .slice A6 (min (nc : Int) 4).toNat c6) rfl
        have d4 := hK.c 4 (v := .slice A7 (min (nx : Int) 4).toNat c7) rfl
        have d5 := hK.c 5 (v := .slice A5 (min (nr : Int) 4).toNat c5) rfl
        have d6 := hK.c 6 (v := .int .i64 K.k) rfl
        have d7 := hK.c 7 (v := .int .i64 K.n) rfl
        have d8 := hK.c 8 (v := .string K.s) rfl
        have d9 := hK.c 9 (v := .int .i64 c) rfl
        have d10 := hK.c 10 (v := .int .i64 lo.k) rfl
        have d11 := hK.c 11 (v := .int .i64 lo.n) rfl
        have d12 := hK.c 12 (v := .string lo.s) rfl
        have d13 := hK.c 13 (v := .int .i64 hi.k) rfl
        have d14 := hK.c 14 (v := .int .i64 hi.n) rfl
        have d15 := hK.c 15 (v := .string hi.s) rfl
        have d16 := hK.c 16 (v := .int .i64 lim) rfl
        have HB := hide hB
        have HP5 := hide hP5
        have HP6 := hide hP6
        have HP7 := hide hP7
        clear hB hK hP5 hP6 hP7 B5 B6 B7 P5 P6 P7 HR4 HC4 HX4
        refine wp_region_lit (l := [_, _]) ?_
        refine wpList_plain rfl fun _ hK => oper_load_row rfl rfl HK1.out Tryz.underlying35 rfl (by kernel_rfl) (hK _ _ ?_)
        refine wpList_plain rfl fun _ hK => oper_store_row rfl rfl rfl HK2.out (by kernel_rfl) rfl (by simp [Value.oneCell']) (hK _ _ ?_)
        refine wpList_nil ?_
        clear HK1 HK2
        go_simp
        go_wp2_with fail
        refine bodyPost_ret (v := .agg #[.int .i64 k, .string tb, .string nm, .slice A6 (min (nc : Int) 4).toNat c6, .slice A7 (min (nx : Int) 4).toNat c7, .slice A5 (min (nr : Int) 4).toNat c5, .int .i64 K.k, .int .i64 K.n, .string K.s, .int .i64 c, .int .i64 lo.k, .int .i64 lo.n, .string lo.s, .int .i64 hi.k, .int .i64 hi.n, .string hi.s, .int .i64 lim]) (by simp [results, Tryz.results16, go_sem, d0, d1, d2, d3, d4, d5, d6, d7, d8, d9, d10, d11, d12, d13, d14, d15, d16]) rfl ?_
        have en : (min (nr : Int) 4).toNat = (row.take 4).length := by rw [List.length_take, Hnr.out]; omega
        have ec : (min (nc : Int) 4).toNat = (cols.take 4).length := by rw [List.length_take, Hnc.out]; omega
        have ex : (min (nx : Int) 4).toNat = (ixs.take 4).length := by rw [List.length_take, Hnx.out]; omega
        refine ⟨[.int .i64 k, .string tb, .string nm, .slice A6 (min (nc : Int) 4).toNat c6, .slice A7 (min (nx : Int) 4).toNat c7, .slice A5 (min (nr : Int) 4).toNat c5, .int .i64 K.k, .int .i64 K.n, .string K.s, .int .i64 c, .int .i64 lo.k, .int .i64 lo.n, .string lo.s, .int .i64 hi.k, .int .i64 hi.n, .string hi.s, .int .i64 lim], rfl, ⟨A6, c6, A7, c7, A5, c5, ?_, ?_, ?_, ?_, ?_, ?_, ?_⟩, HB.out⟩
        · simp only [cut4, ← en, ← ec, ← ex]
        · show (cols.take 4).length ≤ c6; omega
        · show (ixs.take 4).length ≤ c7; omega
        · show (row.take 4).length ≤ c5; omega
        · show RdS B0 _ 3 A6 (cols.take 4).length ((cols.take 4).flatMap Col.cells)
          rw [← ec]; exact HP6.out.1
        · show RdS B0 _ 2 A7 (ixs.take 4).length ((ixs.take 4).flatMap Ix.cells)
          rw [← ex]; exact HP7.out.1
        show RdS B0 _ 3 A5 (row.take 4).length ((row.take 4).flatMap V.cells)
        rw [← en]; exact HP5.out.1
section
variable {B0 db sb n : Nat} {w0 w w' : World} {D : List Tb}
theorem St.rds {k m : Nat} {A : Option Addr} {xs : List Value} (h : St B0 w0 w db sb n D) (hr : RdS B0 w k A m xs) (hu : Upd db w w') : RdS B0 w' k A m xs := by
  obtain ⟨L, hd, _⟩ := h.ex
  exact hr.upd hd.d hu
theorem St.blk (h : St B0 w0 w db sb n D) {b : Nat} {cs : Array Value} {t : TypeId} (hb : Blk w b cs t) (h1 : t ≠ 136) (h2 : t ≠ 155) (hu : Upd db w w') : Blk w' b cs t := by
  obtain ⟨L, hd, _⟩ := h.ex
  exact (hu.same b hb.lt fun hf => by
    obtain ⟨_, cs', T, fr, hh, h3⟩ := hd.d.foot hf
    have hb' : w.heap[b]? = _ := hb
    rw [hb'] at hh
    injection hh with hh
    injection hh with _ hh _
    subst hh
    exact h3.elim h1 h2).trans hb
theorem St.lt (h : St B0 w0 w db sb n D) : db < w.heap.size := by
  obtain ⟨L, hd, _⟩ := h.ex
  exact hd.d.lt
theorem St.tabs (h : St B0 w0 w db sb n D) : Tabs w := by
  obtain ⟨L, hd, _⟩ := h.ex
  exact hd.tabs
theorem St.ok (h : St B0 w0 w db sb n D) : Ok D := by
  obtain ⟨L, hd, _⟩ := h.ex
  exact hd.ok
theorem St.more {n' : Nat} (h : St B0 w0 w db sb n D) (hn : n ≤ n') : St B0 w0 w db sb n' D := by
  obtain ⟨L, hd, hl⟩ := h.ex
  exact ⟨h.hB, h.b, L, hd, by omega⟩
theorem St.all {w0 : World} (h : St w0.heap.size w0 w db sb n D) : Below w0.heap.size w0 w := h.b
theorem St.len (h : St B0 w0 w db sb n D) (nm : ByteArray) (hnm : nm.size ≤ 9223372036854775807) :
    Calls Tryz.prog 22 #[.pointer (some ⟨db, 0, none⟩), .string nm] w fun e w' => (match findT D nm 0 with
      | none => e = .returned (.tuple #[.int .i64 0, .int .i64 60])
      | some (_, T) => e = .returned (.tuple #[.int .i64 T.rows.length, .int .i64 0])) ∧ Below w.heap.size w w' := by
  obtain ⟨L, hd, _⟩ := h.ex
  exact len_any B0 db sb L D nm w hd hnm
theorem St.del (h : St B0 w0 w db sb n D) (nm : ByteArray) (v : V) (hn : n ≤ 50000) (hvw : wf64 v.n) (hvs : v.s.size ≤ 4000000) (hnm : nm.size ≤ 9223372036854775807) :
    Calls Tryz.prog 23 #[.pointer (some ⟨db, 0, none⟩), .string nm, v.val] w fun e w' => e = .returned (.int .i64 (delE D nm v)) ∧ St B0 w0 w' db sb (n + 8) (delD D nm v) ∧ Upd db w w' := by
  obtain ⟨L, hd, hll⟩ := h.ex
  exact (del_any B0 db sb L D nm v hvw hvs w hd (by omega) hnm h.le).mono fun e w' hp => h.post hd hll hp
theorem St.upd (h : St B0 w0 w db sb n D) {nm : ByteArray} {row : List V} {A : Option Addr} {m c : Nat} (hn : n ≤ 50000) (hnm : nm.size ≤ 9223372036854775807) (hrow : RdS B0 w 3 A m (rowCells row)) (hl : row.length = m) (hwf : ∀ v ∈ row, wf64 v.n) (hrs : ∀ v ∈ row, v.s.size ≤ 9223372036854775807) :
    Calls Tryz.prog 29 #[.pointer (some ⟨db, 0, none⟩), .string nm, .slice A m c] w fun e w' => e = .returned (.int .i64 (updE D nm row)) ∧ St B0 w0 w' db sb (n + 8) (updD D nm row) ∧ Upd db w w' := by
  obtain ⟨L, hd, hll⟩ := h.ex
  exact (upd_any B0 db sb L D nm A m c row w hd (by omega) hnm hrow hl hwf hrs h.le).mono fun e w' hp => h.post hd hll hp
theorem St.creA (h : St B0 w0 w db sb n D) {s : Sch} {sv : Value} (hn : n ≤ 50000) (hs : s.small) (hv : SchV w s sv) :
    Calls Tryz.prog 17 #[.pointer (some ⟨db, 0, none⟩), sv] w fun e w' => e = .returned (.int .i64 (creE D s)) ∧ St B0 w0 w' db sb (n + 8) (creD D s) ∧ Upd db w w' := by
  obtain ⟨L, hd, hl⟩ := h.ex
  exact (cre_any B0 db sb L D s sv w hd (by omega) hs hv h.le).mono fun e w' hp => h.post hd hl hp
theorem OpAt.upd {o : OpV} {cs : List Value} (ho : OpAt B0 w o cs) (h : St B0 w0 w db sb n D) (hu : Upd db w w') : OpAt B0 w' o cs := by
  obtain ⟨CA, cc, XA, xc, RA, rc, e, h1, h2, h3, h4, h5, h6⟩ := ho
  exact ⟨CA, cc, XA, xc, RA, rc, e, h1, h2, h3, h.rds h4 hu, h.rds h5 hu, h.rds h6 hu⟩
theorem OpAt.below {o : OpV} {cs : List Value} (ho : OpAt B0 w o cs) (hb : Below w.heap.size w w') : OpAt B0 w' o cs := by
  obtain ⟨CA, cc, XA, xc, RA, rc, e, h1, h2, h3, h4, h5, h6⟩ := ho
  exact ⟨CA, cc, XA, xc, RA, rc, e, h1, h2, h3, h4.below hb, h5.below hb, h6.below hb⟩
theorem OpsAt.upd {l : List OpV} {A : Option Addr} {m : Nat} (ho : OpsAt B0 w A m l) (h : St B0 w0 w db sb n D) (hu : Upd db w w') : OpsAt B0 w' A m l := by
  obtain ⟨hl, xs, hr, hE⟩ := ho
  exact ⟨hl, xs, h.rds hr hu, hE.mono fun o cs _ ho => ho.upd h hu⟩
theorem OpsAt.below {l : List OpV} {A : Option Addr} {m : Nat} (ho : OpsAt B0 w A m l) (hb : Below w.heap.size w w') : OpsAt B0 w' A m l := by
  obtain ⟨hl, xs, hr, hE⟩ := ho
  exact ⟨hl, xs, hr.below hb, hE.mono fun o cs _ ho => ho.below hb⟩
theorem OpsAt.at_ {l : List OpV} {A : Option Addr} {m : Nat} (ho : OpsAt B0 w A m l) (j : Nat) (hj : j < l.length) : ∃ b o cs, A = some ⟨b, o, none⟩ ∧ OpAt B0 w l[j] cs ∧ cs.length = 17 ∧ ∀ i, i < 17 → w.cell? ⟨b, o + j * 17 + i, none⟩ = cs[i]? := by
  obtain ⟨hl, xs, hr, hE⟩ := ho
  have hxl := hE.len
  obtain ⟨b, o, rfl, hc⟩ := hr.rd.some_ (by omega)
  obtain ⟨cs, h17, hop, hx⟩ := hE.at_ j hj
  refine ⟨b, o, cs, rfl, hop, h17, fun i hi => ?_⟩
  have : j * 17 + i < l.length * 17 := by
    have := Nat.mul_le_mul_right 17 (show j + 1 ≤ l.length from hj)
    omega
  rw [Nat.add_assoc, hc (j * 17 + i) (by omega), hx i hi]
end
def runStep (D : List Tb) (o : OpV) : List Tb :=
  if o.k = 1 then creD D (cut4 o).s else if o.k = 2 then insD D o.tb (cut4 o).row else if o.k = 3 then updD D o.tb (cut4 o).row else if o.k = 4 then delD D o.tb o.key else D
def runD (D : List Tb) (l : List OpV) : List Tb := l.foldl runStep D
theorem runD_snoc (D : List Tb) (l : List OpV) (o : OpV) : runD D (l ++ [o]) = runStep (runD D l) o := by simp [runD]
theorem cut4_fit {o : OpV} {m : Nat} (h : o.fit m) : (cut4 o).fit m :=
  ⟨h.tb, ⟨h.s.1, fun c hc => h.s.2.1 c (List.mem_of_mem_take hc), by show (o.s.cols.take 4).length ≤ m; rw [List.length_take]; have := h.s.2.2.1; omega, by show (o.s.ixs.take 4).length ≤ m; rw [List.length_take]; have := h.s.2.2.2; omega⟩,
    ⟨fun v hv => h.row.1 v (List.mem_of_mem_take hv), by show (o.row.take 4).length ≤ m; rw [List.length_take]; have := h.row.2; omega⟩, h.key, h.lo, h.hi, h.k, h.c, h.lim⟩
def FitL (l : List OpV) : Prop := ∀ o ∈ l, o.fit 1048576
theorem Sch.fit.small {s : Sch} {m : Nat} (h : s.fit m) (hm : m ≤ 9223372036854775807) : s.small := ⟨Nat.le_trans h.1 hm, fun c hc => Nat.le_trans (h.2.1 c hc) hm⟩
end Go.Proofs.YtekokogmnhlchaaGreatDoor
