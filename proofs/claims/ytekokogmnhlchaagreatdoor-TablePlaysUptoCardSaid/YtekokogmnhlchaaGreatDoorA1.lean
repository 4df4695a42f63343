import Derived.Test.YtekokogmnhlchaaGreatDoorProg
import Derived.WalkKit
import Derived.Outline
import Derived.KernelRfl
import Derived.Deep.QuietTactic
import Derived.BigQuiet
import Derived.WalkSpells
import Derived.Lib.Hide
import Derived.Deep.Draws
import Derived.Below
import Derived.Laws.NewBlocks
import Derived.Laws.OwnMore
import Derived.Laws.AppendOwnNone
import Derived.Maps.AppendAt
import Derived.OwnWalk
import Derived.RegionTactic
import Derived.Defers
import Derived.Recover
import Derived.Deep.RegionWith
import Derived.Deep.RegionHeld3
import Derived.Laws.BytesArg
import Derived.Lib.LazyBuf
import Derived.Lib.SliceRun
import Derived.Lib.BytesEntry
import Derived.Laws.Externs
import Derived.Ground.NamesProg
import Derived.Shelf.Unicode.ValidAny
import Derived.Shelf.Small.Utf8
import Derived.Lib.MapLaws
import Derived.Lib.ValidLaws
import Derived.Lib.TrimUEq
import Derived.WalkSmall
import Derived.Lib.RuneCount
set_option linter.unusedSimpArgs false
set_option linter.unusedVariables false
set_option linter.unusedSectionVars false
namespace Go.Proofs.YtekokogmnhlchaaGreatDoor
open Go.RowKit
theorem hide {p : Prop} (h : p) : Hid p := h
theorem unhide {p : Prop} (h : Hid p) : p := h
theorem below_drewN {B : Nat} {a w : World} (h : Below B a w) (n : Nat) : Below B a (w.drewN n) := ⟨h.os, h.tape, h.output, h.size, h.block⟩
theorem below_then {B : Nat} {w w1 w2 : World} (h : Below B w w1) (hB : B ≤ w1.heap.size) (k : Below w1.heap.size w1 w2) : Below B w w2 := h.trans (k.mono hB)
theorem below_chain {w w1 w2 : World} (h : Below w.heap.size w w1) (k : Below w1.heap.size w1 w2) : Below w.heap.size w w2 := below_then h h.size k
theorem undrew {n : Nat} {w w1 : World} (h : Below (w.drewN n).heap.size (w.drewN n) w1) : Below w.heap.size w w1 := ⟨h.os, h.tape, h.output, h.size, h.block⟩
theorem undrewd {w w1 : World} (h : Below w.drew.heap.size w.drew w1) : Below w.heap.size w w1 := ⟨h.os, h.tape, h.output, h.size, h.block⟩
abbrev C (w : World) (b o : Nat) (v : Value) : Prop := w.cell? ⟨b, o, none⟩ = some v
theorem C.lt {w : World} {b o : Nat} {v : Value} (h : C w b o v) : b < w.heap.size := World.block_lt_of_cell? w _ h
theorem C.alloc {w : World} {b o : Nat} {v : Value} (h : C w b o v) (x : Obj) : C (w.alloc x) b o v := by
  have := h.lt
  rw [C, World.cell?_alloc_lt w x _ this]; exact h
theorem C.drewN {w : World} {b o : Nat} {v : Value} (h : C w b o v) (n : Nat) : C (w.drewN n) b o v := h
theorem C.below {w w' : World} {b o : Nat} {v : Value} (h : C w b o v) (hb : Below w.heap.size w w') : C w' b o v := (hb.cell (p := ⟨b, o, none⟩) h.lt).trans h
theorem C.new (w : World) (cs : Array Value) (t : TypeId) (i : Nat) {v : Value} (h : cs[i]? = some v) : C (w.alloc (.cells cs t)) w.heap.size i v := by
  rw [C, World.cell?_alloc_at cs t _ i rfl]; exact h
theorem C.newD (w : World) (q : Nat) (cs : Array Value) (t : TypeId) (i : Nat) {v : Value} (h : cs[i]? = some v) : C ((w.drewN q).alloc (.cells cs t)) w.heap.size i v := C.new (w.drewN q) cs t i h
def Rd (w : World) (k : Nat) (A : Option Addr) (n : Nat) (xs : List Value) : Prop :=
  xs.length = n * k ∧ (n = 0 ∨ ∃ b o, A = some ⟨b, o, none⟩ ∧ ∀ j, j < xs.length → w.cell? ⟨b, o + j, none⟩ = xs[j]?)
section
variable {w w' : World} {k n : Nat} {A : Option Addr} {xs : List Value}
theorem Rd.nil (w : World) (k : Nat) (A : Option Addr) : Rd w k A 0 [] := ⟨by simp, .inl rfl⟩
theorem Rd.some_ (h : Rd w k A n xs) (hn : 0 < n) : ∃ b o, A = some ⟨b, o, none⟩ ∧ ∀ j, j < xs.length → w.cell? ⟨b, o + j, none⟩ = xs[j]? := by
  rcases h.2 with h0 | h0
  · omega
  exact h0
theorem Rd.keep (h : Rd w k A n xs) (hk : ∀ p u, w.cell? p = some u → w'.cell? p = some u) : Rd w' k A n xs :=
  ⟨h.1, by
    rcases h.2 with h0 | ⟨b, o, hA, hc⟩
    · exact .inl h0
    refine .inr ⟨b, o, hA, fun j hj => ?_⟩
    have := hc j hj
    rw [List.getElem?_eq_getElem hj] at this ⊢
    exact hk _ _ this⟩
theorem Rd.below (h : Rd w k A n xs) (hb : Below w.heap.size w w') : Rd w' k A n xs := h.keep fun p _ hp => (hb.cell (World.block_lt_of_cell? w p hp)).trans hp
theorem Rd.alloc (h : Rd w k A n xs) (o : Obj) : Rd (w.alloc o) k A n xs := h.below ((Below.refl _ _).alloc (Nat.le_refl _) o)
theorem Rd.drewN (h : Rd w k A n xs) (m : Nat) : Rd (w.drewN m) k A n xs := h
theorem Rd.drew (h : Rd w k A n xs) : Rd w.drew k A n xs := h
theorem Rd.lt (h : Rd w k A n xs) (hn : 0 < n) (hk : 0 < k) : ∃ b o, A = some ⟨b, o, none⟩ ∧ b < w.heap.size := by
  obtain ⟨b, o, hA, hc⟩ := h.some_ hn
  have hl : 0 < xs.length := by rw [h.1]; exact Nat.mul_pos hn hk
  have := hc 0 hl
  rw [List.getElem?_eq_getElem hl] at this
  exact ⟨b, o, hA, World.block_lt_of_cell? w _ this⟩
theorem add_plain (b o j : Nat) : (⟨b, o, none⟩ : Addr).add j = ⟨b, o + j, none⟩ := by unfold Addr.add; split <;> simp_all
theorem Rd.of_own {base : Nat} {e : TypeId} {c : Nat} (h : w.ownsRow base e k (.slice A n c) n xs) : Rd w k A n xs := by
  refine ⟨h.1, ?_⟩
  rcases h.2 with ⟨_, h0⟩ | ⟨g, cap, cur, hv, hb, hh, hn, hm, hs, ht⟩
  · exact .inl h0
  refine .inr ⟨g, 0, by injection hv, fun j hj => ?_⟩
  have := h.cells (g := g) (by rw [hv]; rfl) j xs[j] (List.getElem?_eq_getElem hj)
  rw [List.getElem?_eq_getElem hj, ← this, add_plain]
theorem own_form {base : Nat} {e : TypeId} {v : Value} (h : w.ownsRow base e k v n xs) : ∃ A c, v = .slice A n c ∧ n ≤ c ∧ c ≤ maxLen ∧ Rd w k A n xs := by
  rcases h.2 with ⟨rfl, rfl⟩ | ⟨g, cap, cur, rfl, hb, hh, hn, hm, hs, ht⟩
  · exact ⟨none, 0, rfl, by omega, by simp, Rd.of_own h⟩
  exact ⟨_, cap, rfl, hn, hm, Rd.of_own h⟩
theorem own_below {w w' : World} {k n : Nat} {xs : List Value} {base : Nat} {e : TypeId} {v : Value} (h : w.ownsRow base e k v n xs) (hb : Below w.heap.size w w') : w'.ownsRow base e k v n xs :=
  h.kept (row := none) ⟨hb.os, hb.tape, hb.output, hb.size, fun k hk _ => hb.block k hk⟩ (by cases v.ownBlock <;> simp)
theorem own_len {base : Nat} {e : TypeId} {v : Value} (h : w.ownsRow base e k v n xs) : xs.length = n * k := h.1
end
structure SlT (P : Program) (t e : TypeId) (size bytes : Nat) : Prop where
  ex : ∃ (i : TypeInfo) (z : Value), P.underlying t = some (.slice e) ∧ P.info? e = some i ∧ i.zero = some z ∧ i.size = size ∧ i.bytes = bytes ∧ z.cells.size = size ∧ 0 < size
theorem run_app {P : Program} {w : World} {t e ty : TypeId} {size bytes : Nat} (T : SlT P t e size bytes)
    {base : Nat} {v : Value} {n : Nat} {xs : List Value} (hown : w.ownsRow base e size v n xs)
    {A : Option Addr} {m c : Nat} {news : List Value} (hr : Rd w size A m news) (h1 : ∀ u ∈ news, u.oneCell' = true)
    (h63 : n + m ≤ 4294967296) (hbytes : bytes ≤ 32768) (hbase : base ≤ w.heap.size) :
    ∃ v' w', (Builtin.append_ #[t, t] ty #[v, .slice A m c]).run P w = .ok v' w' ∧ w'.ownsRow base e size v' (n + m) (xs ++ news) ∧ Below base w w' ∧ w.grownBy w' v.ownBlock ∧ (v'.ownBlock = v.ownBlock ∨ v'.ownBlock = some w.heap.size) := by
  obtain ⟨i, z, ht, hi, hz, hsize, hby, hzs, hsz⟩ := T.ex
  have hbl : ∀ {w' : World}, w.grownBy w' v.ownBlock → Below base w w' := fun hg => (Below.refl _ _).grown hg hbase (fun k hk => (hown.lt k hk).1)
  have hN : (n + m) * bytes ≤ 140737488355328 := Nat.le_trans (Nat.mul_le_mul h63 hbytes) (by decide)
  rcases hr.2 with h0 | ⟨b, off, rfl, hc⟩
  · subst h0
    have hnil : news = [] := List.eq_nil_of_length_eq_zero (by simpa using hr.1)
    subst hnil
    have hrun : (Builtin.append_ #[t, t] ty #[v, .slice A 0 c]).run P w = .ok v w := by
      rcases A with _ | ad
      · rcases hown.2 with ⟨rfl, rfl⟩ | ⟨g, cap, cur, rfl, _, _, hnc, _⟩
        · simp [Builtin.append_, run_underlying ht, sizeOf, typeInfo, hi, Builtin.lenOf, Builtin.firstCells]
        simp [Builtin.append_, run_underlying ht, sizeOf, typeInfo, hi, Builtin.lenOf, Builtin.firstCells, hnc, storeCells]
      rcases hown.2 with ⟨rfl, rfl⟩ | ⟨g, cap, cur, rfl, _, _, hnc, _⟩
      · simp [Builtin.append_, run_underlying ht, sizeOf, typeInfo, hi, Builtin.lenOf, Builtin.firstCells, loadCells, loadCellsFrom]
      simp [Builtin.append_, run_underlying ht, sizeOf, typeInfo, hi, Builtin.lenOf, Builtin.firstCells, hnc, storeCells, loadCells, loadCellsFrom]
    exact ⟨v, w, hrun, by simpa using hown, Below.refl _ _, World.grownBy.refl w _, .inl rfl⟩
  obtain ⟨v', w', hrun, h2, h3, _, h5⟩ := run_append_own_at (P := P) w base t ty e i z size bytes ht hi hz hsize hby hzs hsz v n xs hown ⟨b, off, none⟩ m c news hr.1 (by
    intro j u hj
    have hl : j < news.length := (List.getElem?_eq_some_iff.1 hj).1
    rw [add_plain, hc j hl, hj]) h1 (by simp only [maxLen]; omega) hN hbase
  exact ⟨v', w', hrun, h2, hbl h3, h3, h5⟩
theorem oper_app {P : Program} {w : World} {o : Oper} {a : Act} {K : Act → World → Prop} {Q : Exit → Act → World → Prop} {t e : TypeId} {size bytes : Nat} (T : SlT P t e size bytes) {s x : Operand}
    (ho : o.op = .call { callee := .builtin .append, args := #[s, x], argTypes := #[t, t] })
    {base : Nat} {v : Value} {n : Nat} {xs : List Value} (hown : w.ownsRow base e size v n xs) (hs : a.eval s = v)
    {A : Option Addr} {m c : Nat} {news : List Value} (hr : Rd w size A m news) (hx : a.eval x = .slice A m c) (h1 : ∀ u ∈ news, u.oneCell' = true)
    (h63 : n + m ≤ 4294967296) (hbytes : bytes ≤ 32768) (hbase : base ≤ w.heap.size)
    (h : ∀ A' c' w', w'.ownsRow base e size (.slice A' (n + m) c') (n + m) (xs ++ news) → Below base w w' → w.grownBy w' v.ownBlock → ((Value.slice A' (n + m) c').ownBlock = v.ownBlock ∨ (Value.slice A' (n + m) c').ownBlock = some w.heap.size) → K (a.put o.dst (.slice A' (n + m) c')) w') : o.wp P a w K Q := by
  obtain ⟨v', w', hrun, h2, h3, h4, h5⟩ := run_app (P := P) (ty := o.type) (c := c) T hown hr h1 h63 hbytes hbase
  unfold Oper.wp execOp
  simp only [ho, resolve, invoke, builtin, Sem.run_bind, Sem.run_pure, Result.andThen_ok, List.map_toArray, List.map_cons, List.map_nil, hs, hx, hrun]
  obtain ⟨A', c', rfl, _⟩ := own_form h2
  exact h A' c' w' h2 h3 h4 h5
theorem wp_app {P : Program} {w : World} {ops : Array Oper} {rest : List Oper} {o : Oper} {a : Act} {Q : Exit → Act → World → Prop} {t e : TypeId} {size bytes : Nat} (T : SlT P t e size bytes) (hgd : o.guard = none) {s x : Operand}
    (ho : o.op = .call { callee := .builtin .append, args := #[s, x], argTypes := #[t, t] })
    {base : Nat} {v : Value} {n : Nat} {xs : List Value} (hown : w.ownsRow base e size v n xs) (hs : a.eval s = v)
    {A : Option Addr} {m c : Nat} {news : List Value} (hr : Rd w size A m news) (hx : a.eval x = .slice A m c) (h1 : ∀ u ∈ news, u.oneCell' = true)
    (h63 : n + m ≤ 4294967296) (hbytes : bytes ≤ 32768) (hbase : base ≤ w.heap.size)
    (h : ∀ A' c' w', w'.ownsRow base e size (.slice A' (n + m) c') (n + m) (xs ++ news) → Below base w w' → w.grownBy w' v.ownBlock → ((Value.slice A' (n + m) c').ownBlock = v.ownBlock ∨ (Value.slice A' (n + m) c').ownBlock = some w.heap.size) → wpList P ops Q rest (a.put o.dst (.slice A' (n + m) c')) w') :
    wpList P ops Q (o :: rest) a w :=
  wpList_plain hgd fun _ hK => oper_app T ho hown hs hr hx h1 h63 hbytes hbase fun A' c' w' h2 h3 h4 h5 => hK _ _ (h A' c' w' h2 h3 h4 h5)
theorem Rd.lit (W : World) (cs : Array Value) (t : TypeId) (k m g : Nat) (hg : g = W.heap.size) (hs : cs.size = m * k) : Rd (W.alloc (.cells cs t)) k (some ⟨g, 0, none⟩) m cs.toList := by
  subst hg
  refine ⟨by simpa using hs, .inr ⟨W.heap.size, 0, rfl, fun j hj => ?_⟩⟩
  rw [World.cell?_alloc_at cs t _ _ rfl]
  simp
theorem wp_lit {P : Program} {W : World} {ops : Array Oper} {rest : List Oper} {o : Oper} {a : Act} {Q : Exit → Act → World → Prop} {t e : TypeId} {size bytes : Nat} (T : SlT P t e size bytes) (hgd : o.guard = none) {s x : Operand}
    (ho : o.op = .call { callee := .builtin .append, args := #[s, x], argTypes := #[t, t] })
    {base : Nat} {v : Value} {n : Nat} {xs : List Value} (hown : W.ownsRow base e size v n xs) (hs : a.eval s = v)
    {cs : Array Value} {g m : Nat} (hx : a.eval x = .slice (some ⟨g, 0, none⟩) m m) (hg : g = W.heap.size) (hcs : cs.size = m * size) (h1 : ∀ u ∈ cs.toList, u.oneCell' = true)
    (h63 : n + m ≤ 4294967296) (hbytes : bytes ≤ 32768) (hbase : base ≤ W.heap.size)
    (h : ∀ A' c' w', w'.ownsRow base e size (.slice A' (n + m) c') (n + m) (xs ++ cs.toList) → Below base W w' → W.grownBy w' v.ownBlock → wpList P ops Q rest (a.put o.dst (.slice A' (n + m) c')) w') :
    wpList P ops Q (o :: rest) a (W.alloc (.cells cs e)) :=
  wp_app T hgd ho (hown.alloc _) hs (Rd.lit W cs e size m g hg hcs) hx h1 h63 hbytes (by simp; omega) fun A' c' w' h2 h3 h4 _ =>
    h A' c' w' h2 (((Below.refl _ _).alloc hbase _).trans h3) ((World.grownBy_alloc W _ _).trans h4)
theorem step_app {P : Program} {w : World} {ops : Array Oper} {o : Oper} {a : Act} {K : Act → World → Prop} {Q : Exit → Act → World → Prop} {E : Prop} {t e : TypeId} {size bytes : Nat} (T : SlT P t e size bytes) (hgd : o.guard = none) {s x : Operand}
    (ho : o.op = .call { callee := .builtin .append, args := #[s, x], argTypes := #[t, t] })
    {base : Nat} {v : Value} {n : Nat} {xs : List Value} (hown : w.ownsRow base e size v n xs) (hs : a.eval s = v)
    {A : Option Addr} {m c : Nat} {news : List Value} (hr : Rd w size A m news) (hx : a.eval x = .slice A m c) (h1 : ∀ u ∈ news, u.oneCell' = true)
    (h63 : n + m ≤ 4294967296) (hbytes : bytes ≤ 32768) (hbase : base ≤ w.heap.size)
    (h : ∀ A' c' w', w'.ownsRow base e size (.slice A' (n + m) c') (n + m) (xs ++ news) → Below base w w' → w.grownBy w' v.ownBlock → ((Value.slice A' (n + m) c').ownBlock = v.ownBlock ∨ (Value.slice A' (n + m) c').ownBlock = some w.heap.size) → K (a.put o.dst (.slice A' (n + m) c')) w') :
    if Region.wanted o (yielded ops a.tmps) = true then Oper.wp P o a w K Q else E := by
  have hw : Region.wanted o (yielded ops a.tmps) = true := by simp [Region.wanted, hgd]
  rw [if_pos hw]
  exact oper_app T ho hown hs hr hx h1 h63 hbytes hbase h
theorem step_call {P : Program} {w : World} {ops : Array Oper} {o : Oper} {a : Act} {K : Act → World → Prop} {Q : Exit → Act → World → Prop} {E : Prop} {f : FuncId} {args : List Operand} {tys : Array TypeId} {vs : List Value} {R : Ending → World → Prop}
    (hgd : o.guard = none) (ho : o.op = .call { callee := .value (.func f), args := args.toArray, argTypes := tys }) (hv : args.map a.eval = vs)
    (hi : (invoke (.fn (.func f) #[]) vs.toArray).run P w = .ok (.enter f vs.toArray) w) (hc : Calls P f vs.toArray w R)
    (h : ∀ e w', R e w' → ∃ v, e = .returned v ∧ K (a.put o.dst v) w') :
    if Region.wanted o (yielded ops a.tmps) = true then Oper.wp P o a w K Q else E := by
  have hw : Region.wanted o (yielded ops a.tmps) = true := by simp [Region.wanted, hgd]
  rw [if_pos hw]
  subst hv
  have key : (execOp a.eval o).run P w = .ok (.enter f (args.map a.eval).toArray) w := by
    unfold execOp
    simp [ho, resolve, Act.eval, Deferred.ofValue]
    exact hi
  unfold Oper.wp
  rw [key, Oper.upon_enter]
  refine hc.mono fun e w' hr => ?_
  obtain ⟨v, rfl, hk⟩ := h e w' hr
  exact hk
def Els {α : Type} (P : α → List Value → Prop) (k : Nat) (L : List α) (xs : List Value) : Prop :=
  ∃ vs : List (List Value), xs = vs.flatten ∧ vs.length = L.length ∧ ∀ i (h : i < L.length) (h' : i < vs.length), vs[i].length = k ∧ P L[i] vs[i]
theorem flatten_get {k : Nat} : ∀ (vs : List (List Value)), (∀ v ∈ vs, v.length = k) → ∀ (i j : Nat) (h : i < vs.length), j < k → vs.flatten[i * k + j]? = vs[i][j]?
  | [], _, i, _, h, _ => by simp at h
  | v :: vs, hv, 0, j, _, hj => by
    have h0 := hv v (by simp)
    simp only [List.flatten_cons, Nat.zero_mul, Nat.zero_add, List.getElem_cons_zero]
    rw [List.getElem?_append_left (by omega)]
  | v :: vs, hv, i + 1, j, h, hj => by
    have h0 := hv v (by simp)
    have e : (i + 1) * k + j = v.length + (i * k + j) := by rw [h0, Nat.add_mul]; omega
    simp only [List.flatten_cons, List.getElem_cons_succ]
    rw [e, List.getElem?_append_right (by omega), Nat.add_sub_cancel_left]
    exact flatten_get vs (fun u hu => hv u (by simp [hu])) i j _ hj
section
variable {α : Type} {P P' : α → List Value → Prop} {k : Nat} {L : List α} {xs : List Value}
theorem Els.nil (P : α → List Value → Prop) (k : Nat) : Els P k [] [] := ⟨[], rfl, rfl, fun i h => by simp at h⟩
theorem Els.one {x : α} {v : List Value} (hk : v.length = k) (hp : P x v) : Els P k [x] v :=
  ⟨[v], by simp, rfl, fun i h h' => by
    have : i = 0 := by simp at h; omega
    subst this
    exact ⟨hk, hp⟩⟩
theorem Els.append {L' : List α} {ys : List Value} (h : Els P k L xs) (h' : Els P k L' ys) : Els P k (L ++ L') (xs ++ ys) := by
  obtain ⟨vs, rfl, hl, he⟩ := h
  obtain ⟨us, rfl, hl', he'⟩ := h'
  refine ⟨vs ++ us, by simp, by simp [hl, hl'], fun i hi hi' => ?_⟩
  by_cases hlt : i < L.length
  · simp only [List.getElem_append_left hlt, List.getElem_append_left (show i < vs.length by omega)]
    exact he i hlt (by omega)
  simp only [List.getElem_append_right (show L.length ≤ i by omega), List.getElem_append_right (show vs.length ≤ i by omega), hl]
  exact he' _ _ _
theorem Els.snoc {x : α} {v : List Value} (h : Els P k L xs) (hk : v.length = k) (hp : P x v) : Els P k (L ++ [x]) (xs ++ v) := h.append (Els.one hk hp)
theorem Els.mono (h : Els P k L xs) (hm : ∀ x v, x ∈ L → P x v → P' x v) : Els P' k L xs := by
  obtain ⟨vs, hx, hl, he⟩ := h
  exact ⟨vs, hx, hl, fun i hi hi' => ⟨(he i hi hi').1, hm _ _ (List.getElem_mem hi) (he i hi hi').2⟩⟩
theorem Els.len (h : Els P k L xs) : xs.length = L.length * k := by
  obtain ⟨vs, rfl, hl, he⟩ := h
  have : ∀ v ∈ vs, v.length = k := by
    intro v hv
    obtain ⟨i, hi, rfl⟩ := List.getElem_of_mem hv
    exact (he i (by omega) hi).1
  rw [← hl, List.length_flatten]
  clear hl he
  induction vs with
  | nil => simp
  | cons v vs ih =>
    simp only [List.map_cons, List.sum_cons, List.length_cons, Nat.add_mul, Nat.one_mul]
    rw [this v (by simp), ih (fun u hu => this u (by simp [hu]))]
    omega
theorem Els.at_ (h : Els P k L xs) (i : Nat) (hi : i < L.length) : ∃ v, v.length = k ∧ P L[i] v ∧ ∀ j, j < k → xs[i * k + j]? = v[j]? := by
  obtain ⟨vs, rfl, hl, he⟩ := h
  have hall : ∀ v ∈ vs, v.length = k := by
    intro v hv
    obtain ⟨i, hi, rfl⟩ := List.getElem_of_mem hv
    exact (he i (by omega) hi).1
  have hv := he i hi (by omega)
  exact ⟨vs[i]'(by omega), hv.1, hv.2, fun j hj => flatten_get vs hall i j _ hj⟩
theorem Els.take (h : Els P k L xs) (n : Nat) : Els P k (L.take n) (xs.take (n * k)) := by
  obtain ⟨vs, rfl, hl, he⟩ := h
  have hall : ∀ v ∈ vs, v.length = k := by
    intro v hv
    obtain ⟨i, hi, rfl⟩ := List.getElem_of_mem hv
    exact (he i (by omega) hi).1
  refine ⟨vs.take n, ?_, by simp [hl], fun i hi hi' => ?_⟩
  · clear hl he
    induction vs generalizing n with
    | nil => simp
    | cons v vs ih =>
      cases n with
      | zero => simp
      | succ n =>
        have h0 := hall v (by simp)
        simp only [List.flatten_cons, List.take_succ_cons]
        rw [Nat.add_mul, Nat.one_mul, Nat.add_comm, ← h0, List.take_length_add_append, h0]
        rw [ih n (fun u hu => hall u (by simp [hu]))]
  simp only [List.length_take] at hi hi'
  simp only [List.getElem_take]
  exact he i (by omega) (by omega)
end
theorem down_any (b : Nat) (x : Bool) (w : World) (h : C w b 3 (.bool x)) :
    Calls Tryz.prog 196 #[.pointer (some ⟨b, 0, none⟩)] w fun e w' => e = .returned (.bool x) ∧ w' = w := by
  go_enter Tryz.func196, Tryz.ntmps196
  go_wp2
  go_ret
  exact ⟨rfl, rfl⟩
theorem life_any (b : Nat) (x : Int) (w : World) (h : C w b 4 (.int .i64 x)) :
    Calls Tryz.prog 197 #[.pointer (some ⟨b, 0, none⟩)] w fun e w' => e = .returned (.int .i64 x) ∧ w' = w := by
  go_enter Tryz.func197, Tryz.ntmps197
  go_wp2
  go_ret
  exact ⟨rfl, rfl⟩
theorem blocks_any (b : Nat) (x : Int) (w : World) (h : C w b 0 (.int .i64 x)) :
    Calls Tryz.prog 195 #[.pointer (some ⟨b, 0, none⟩)] w fun e w' => e = .returned (.int .i64 x) ∧ w = w' := by
  go_enter Tryz.func195, Tryz.ntmps195
  go_wp2
  go_ret
  exact ⟨rfl, rfl⟩
theorem pdead_any (pb kb : Nat) (life : Int) (w : World) (h2 : C w pb 2 (.pointer (some ⟨kb, 0, none⟩))) (h3 : C w pb 3 (.int .i64 life)) (k3 : C w kb 3 (.bool false)) (k4 : C w kb 4 (.int .i64 life)) :
    Calls Tryz.prog 165 #[.pointer (some ⟨pb, 0, none⟩)] w fun e w' => e = .returned (.bool false) ∧ ∃ n, w' = w.drewN n := by
  go_enter Tryz.func165, Tryz.ntmps165
  go_wp2
  go_quiet (first | (go_at_call 196; exact Calls.quiet_of_same (down_any kb false _ k3)) | (go_at_call 197; exact Calls.quiet_of_same (life_any kb life _ k4)))
  go_wp2
  go_ret
  exact ⟨rfl, nq, rfl⟩
structure Alive (w : World) (pb : Nat) : Prop where
  ex : ∃ (kb : Nat) (life : Int), C w pb 2 (.pointer (some ⟨kb, 0, none⟩)) ∧ C w pb 3 (.int .i64 life) ∧ C w kb 3 (.bool false) ∧ C w kb 4 (.int .i64 life)
theorem Alive.alloc {w : World} {pb : Nat} (h : Alive w pb) (x : Obj) : Alive (w.alloc x) pb := by
  obtain ⟨kb, life, h2, h3, k3, k4⟩ := h
  exact ⟨kb, life, h2.alloc x, h3.alloc x, k3.alloc x, k4.alloc x⟩
theorem Alive.drewN {w : World} {pb : Nat} (h : Alive w pb) (n : Nat) : Alive (w.drewN n) pb := ⟨h.ex⟩
theorem Alive.below {w w' : World} {pb : Nat} (h : Alive w pb) (hb : Below w.heap.size w w') : Alive w' pb := by
  obtain ⟨kb, life, h2, h3, k3, k4⟩ := h
  exact ⟨kb, life, h2.below hb, h3.below hb, k3.below hb, k4.below hb⟩
theorem tdead_any (tb pb : Nat) (w : World) (h0 : C w tb 0 (.pointer (some ⟨pb, 0, none⟩))) (ha : Alive w pb) :
    Calls Tryz.prog 106 #[.pointer (some ⟨tb, 0, none⟩)] w fun e w' => e = .returned (.bool false) ∧ ∃ n, w' = w.drewN n := by
  obtain ⟨kb, life, h2, h3, k3, k4⟩ := ha
  go_enter Tryz.func106, Tryz.ntmps106
  go_wp2_with (go_at_call 165; refine (pdead_any pb kb life _ h2 h3 k3 k4).mono ?_; rintro e w' ⟨rfl, n, rfl⟩)
  go_ret
  exact ⟨rfl, n, rfl⟩
theorem may_ok (tb pb : Nat) (A B : Option Addr) (n m c d : Nat) (w : World) (h0 : C w tb 0 (.pointer (some ⟨pb, 0, none⟩))) (ha : Alive w pb) (hn : 0 < n) (hn2 : n ≤ 64) (hm : m ≤ 1800) :
    Calls Tryz.prog 236 #[.pointer (some ⟨tb, 0, none⟩), .slice A n c, .slice B m d] w fun e w' => e = .returned (.int .i64 0) ∧ ∃ n, w' = w.drewN n := by
  have hz : ((n : Int) == 0) = false := by simp; omega
  go_enter Tryz.func236, Tryz.ntmps236
  go_wp2_with (go_at_call 106; refine (tdead_any tb pb _ h0 ha).mono ?_; rintro e w' ⟨rfl, q, rfl⟩)
  go_wp2
  go_ret
  exact ⟨rfl, q, rfl⟩
theorem get_nil (tb : Nat) (A : Option Addr) (n c : Nat) (w : World) :
    Calls Tryz.prog 237 #[.pointer (some ⟨tb, 0, none⟩), .nilIface, .slice A n c] w fun e w' => e = .returned (.tuple #[.slice none 0 0, .bool false]) ∧ w = w' := by
  go_enter Tryz.func237, Tryz.ntmps237
  go_wp2
  refine wp_loop_rounds 1 ?_
  rw [rounds_succ]
  go_wp2
  go_ret2
  exact ⟨rfl, rfl⟩
theorem caught_idle (p : Addr) (w : World) :
    CallsD Tryz.prog 160 #[.pointer (some p)] .returning w fun e u' w' => e = .returned (.tuple #[]) ∧ u' = .returning ∧ w' = w := by
  refine callsD_of_wpS Tryz.func160 rfl fun c₀ cs hu => ?_
  apply wpS_seq
  apply wpS_region
  simp [wpOpsS, go_sem, recoverD, hu, Tryz.ntmps160, Exit.thenS]
  refine wpS_of_wp ?_
  simp only [Array.replicate_succ, Array.replicate_zero, List.push_toArray, List.append_toArray, List.nil_append, List.cons_append, List.setIfInBounds_toArray, List.set_cons_succ, List.set_cons_zero]
  go_wp2
  cases c₀
  simp_all [bodyPostS, results, Tryz.results160]
theorem rng1_idle (eb lb : Nat) (w : World) (h : C w eb 0 (.int .i64 0)) (u : FrameMode) :
    CallsD Tryz.prog 205 #[.pointer (some ⟨eb, 0, none⟩), .pointer (some ⟨lb, 0, none⟩)] u w fun e u' w' => u' = u ∧ (e = .returned (.tuple #[]) ∧ w' = w) := by
  go_enter_d Tryz.func205, Tryz.ntmps205
  go_wp2
  go_end0
  exact ⟨rfl, rfl⟩
set_option maxRecDepth 100000 in
theorem through_nil (tb : Nat) (A B : Option Addr) (n m c d : Nat) (most : Int) (w : World) :
    Calls Tryz.prog 206 #[.pointer (some ⟨tb, 0, none⟩), .nilIface, .slice A n c, .slice B m d, .int .i64 most, .slice none 0 0] w fun e w' => e = .returned (.slice none 0 0) ∧ w = w' := by
  go_enter Tryz.func206, Tryz.ntmps206
  go_wp2
  go_ret
  exact ⟨rfl, rfl⟩
set_option maxHeartbeats 400000 in
theorem rng_nil (tb pb : Nat) (A B : Option Addr) (n m c d : Nat) (most : Int) (w : World) (h0 : C w tb 0 (.pointer (some ⟨pb, 0, none⟩))) (ha : Alive w pb) (h : 0 ≤ most) (hn : n ≤ 64) (hm : m ≤ 64) :
    Calls Tryz.prog 164 #[.pointer (some ⟨tb, 0, none⟩), .nilIface, .slice A n c, .slice B m d, .int .i64 most] w fun e w' => e = .returned (.tuple #[.slice none 0 0, .int .i64 0]) ∧ Below w.heap.size w w' := by
  have hmf : ∀ (fn : Fn) (first cap : Array Value) (w : World), (Instr.makeFunc fn first cap).run Tryz.prog w = .ok (.func fn first cap) w := fun _ _ _ _ => rfl
  have h0' := fun x y => (h0.alloc x).alloc y
  have ha' := fun x y => (ha.alloc x).alloc y
  have H0 := hide h0'
  have HA := hide ha'
  clear h0' ha' h0 ha
  go_enter_defers Tryz.func164, Tryz.ntmps164
  go_wp2_with fail
  refine (tdead_any tb pb _ (H0.out _ _) (HA.out _ _)).mono ?_
  rintro e w' ⟨rfl, q, rfl⟩
  go_wp2_with fail
  refine (through_nil _ _ _ _ _ _ _ _ _).mono ?_
  rintro e w' ⟨rfl, rfl⟩
  go_wp2
  refine leaves_cons (f := 160) (args := #[.pointer (some ⟨w.heap.size + 1, 0, none⟩)]) (by simp) (by simp [go_sem]) ?_
  refine (caught_idle ⟨w.heap.size + 1, 0, none⟩ _).mono ?_
  rintro e u' w'' ⟨rfl, rfl, rfl⟩
  refine leaves_cons (f := 205) (args := #[.pointer (some ⟨w.heap.size + 1, 0, none⟩), .pointer (some ⟨w.heap.size, 0, none⟩)]) (by simp [settle]) (by simp [go_sem]) ?_
  refine (rng1_idle (w.heap.size + 1) w.heap.size _ ?_ .returning).mono ?_
  · simp [C, go_sem]
  rintro e u' w'' ⟨rfl, rfl, rfl⟩
  have hb : Below w.heap.size w (((((w.alloc (Obj.cells #[Value.slice none 0 0] 128)).alloc (Obj.cells #[Value.int IntKind.i64 0] 37)).drewN q).setCell { block := w.heap.size, off := 0 } (Value.slice none 0 0)).setCell { block := w.heap.size + 1, off := 0 } (Value.int IntKind.i64 0)) := ((below_drewN (((Below.refl _ _).alloc (Nat.le_refl _) _).alloc (by simp) _) q).setCell (by simp) _).setCell (by simp) _
  simp [Leaves, settle, results, Tryz.results164, go_sem]
  exact hb
theorem range_nil (tb pb : Nat) (A B : Option Addr) (n m c d : Nat) (most : Int) (w : World) (h0 : C w tb 0 (.pointer (some ⟨pb, 0, none⟩))) (h1 : C w tb 1 .nilIface) (ha : Alive w pb) (h : 0 ≤ most) (hn : n ≤ 64) (hm : m ≤ 64) :
    Calls Tryz.prog 104 #[.pointer (some ⟨tb, 0, none⟩), .slice A n c, .slice B m d, .int .i64 most] w fun e w' => e = .returned (.tuple #[.slice none 0 0, .int .i64 0]) ∧ Below w.heap.size w w' := by
  go_enter Tryz.func104, Tryz.ntmps104
  go_wp2_with (go_at_call 164; refine (rng_nil tb pb _ _ _ _ _ _ _ _ h0 ha h hn hm).mono ?_; rintro e w' ⟨rfl, hb⟩)
  go_ret2
  exact ⟨rfl, hb⟩
set_option maxHeartbeats 400000 in
theorem tget_nil (tb pb : Nat) (A : Option Addr) (n c : Nat) (w : World) (h0 : C w tb 0 (.pointer (some ⟨pb, 0, none⟩))) (h1 : C w tb 1 .nilIface) (ha : Alive w pb) (hn : 0 < n) (hn2 : n ≤ 64) :
    Calls Tryz.prog 208 #[.pointer (some ⟨tb, 0, none⟩), .slice A n c] w fun e w' => e = .returned (.tuple #[.slice none 0 0, .bool false, .int .i64 0]) ∧ Below w.heap.size w w' := by
  have h0' := fun x => h0.alloc x
  have h1' := fun x n => (h1.alloc x).drewN n
  have ha' := fun x => ha.alloc x
  have H0 := hide h0'
  have H1 := hide h1'
  have HA := hide ha'
  clear h0' ha' h1' h0 ha h1
  go_enter_defers Tryz.func208, Tryz.ntmps208
  go_wp2_with fail
  refine (may_ok tb pb _ _ _ _ _ _ _ (H0.out _) (HA.out _) hn hn2 (by omega)).mono ?_
  rintro e w' ⟨rfl, q, rfl⟩
  have h1 := H1.out (.cells #[.int .i64 0] 37) q
  go_wp2_with fail
  refine (get_nil _ _ _ _ _).mono ?_
  rintro e w' ⟨rfl, rfl⟩
  go_wp2
  refine leaves_cons (f := 160) (args := #[.pointer (some ⟨w.heap.size, 0, none⟩)]) (by simp) (by simp [go_sem]) ?_
  refine (caught_idle ⟨w.heap.size, 0, none⟩ _).mono ?_
  rintro e u' w'' ⟨rfl, rfl, rfl⟩
  have hb : Below w.heap.size w (((w.alloc (Obj.cells #[Value.int IntKind.i64 0] 37)).drewN q).setCell { block := w.heap.size, off := 0 } (Value.int IntKind.i64 0)) := (below_drewN ((Below.refl _ _).alloc (Nat.le_refl _) _) q).setCell (by simp) _
  simp [Leaves, settle, results, Tryz.results208, go_sem]
  exact hb
theorem u8T : SlT Tryz.prog 105 5 1 1 := ⟨by
  obtain ⟨i, hi, hz0, hz1, hz2⟩ := info_parts (P := Tryz.prog) (e := 5) (z := .int .u8 0) (size := 1) (bytes := 1) (by kernel_rfl)
  exact ⟨i, _, Tryz.underlying105, hi, hz0, hz1, hz2, rfl, by omega⟩⟩
theorem in_any (s : Int) (A : Option Addr) (n c : Nat) (xs : List Value) (w : World) (hx : Rd w 1 A n xs) (h1 : ∀ u ∈ xs, u.oneCell' = true) (hn : n ≤ 1000000) :
    Calls Tryz.prog 178 #[.int .i64 s, .slice A n c] w fun e w' => ∃ A' c', e = .returned (.slice A' (n + 1) c') ∧ Below w.heap.size w w' := by
  go_enter Tryz.func178, Tryz.ntmps178
  go_wp2_with (at_builtin; refine wp_app u8T rfl rfl (World.ownsRow_lit w _ 1 (Nat.le_refl _) (by decide) rfl) rfl (hx.alloc _) rfl h1 (by omega) (by omega) (by simp) ?_; intro A' c' w1 hown hb hg hat)
  go_wp2
  go_ret
  exact ⟨⟨A', c', by rw [Nat.add_comm]; rfl⟩, (((Below.refl _ _).alloc (Nat.le_refl _) _).trans hb)⟩
theorem lright_ok (s : Int) (A B : Option Addr) (n m c d : Nat) (bare : Bool) (w : World) (h : 0 ≤ s) (h2 : s < 16) (h3 : bare = false → 0 < n) (h4 : n ≤ 60) (h5 : m ≤ 1800) :
    Calls Tryz.prog 177 #[.int .i64 s, .slice A n c, .slice B m d, .bool bare] w fun e w' => e = .returned (.int .i64 0) ∧ w = w' := by
  cases bare
  · have hz : ((n : Int) == 0) = false := by have := h3 rfl; simp; omega
    go_enter Tryz.func177, Tryz.ntmps177
    go_wp2
    go_ret
    exact ⟨rfl, rfl⟩
  clear h3
  go_enter Tryz.func177, Tryz.ntmps177
  go_wp2
  all_goals
    go_ret
    exact ⟨rfl, rfl⟩
structure StoreAt (w : World) (sb : Nat) : Prop where
  ex : ∃ (tb pb : Nat), C w sb 0 (.pointer (some ⟨tb, 0, none⟩)) ∧ C w tb 0 (.pointer (some ⟨pb, 0, none⟩)) ∧ C w tb 1 .nilIface ∧ Alive w pb
theorem StoreAt.below {w w' : World} {sb : Nat} (h : StoreAt w sb) (hb : Below w.heap.size w w') : StoreAt w' sb := by
  obtain ⟨tb, pb, h0, h1, h2, ha⟩ := h
  exact ⟨tb, pb, h0.below hb, h1.below hb, h2.below hb, ha.below hb⟩
set_option maxHeartbeats 400000 in
theorem sget_any (sb : Nat) (s : Int) (A : Option Addr) (n c : Nat) (xs : List Value) (w : World) (hs : StoreAt w sb) (hx : Rd w 1 A n xs) (h1 : ∀ u ∈ xs, u.oneCell' = true) (h : 0 ≤ s) (h2 : s < 16) (h3 : 0 < n) (h4 : n ≤ 60) :
    Calls Tryz.prog 171 #[.pointer (some ⟨sb, 0, none⟩), .int .i64 s, .slice A n c] w fun e w' => e = .returned (.tuple #[.slice none 0 0, .bool false, .int .i64 0]) ∧ Below w.heap.size w w' := by
  obtain ⟨tb, pb, h0, ht0, ht1, ha⟩ := hs
  go_enter Tryz.func171, Tryz.ntmps171
  go_wp2_with fail
  refine (tdead_any tb pb _ ht0 ha).mono ?_
  rintro e w' ⟨rfl, q, rfl⟩
  go_wp2_with fail
  refine (lright_ok _ _ _ _ _ _ _ _ _ h h2 (fun _ => h3) h4 (by omega)).mono ?_
  rintro e w' ⟨rfl, rfl⟩
  go_wp2_with fail
  go_region_with (first
    | (go_at_call 178; refine (in_any _ _ _ _ _ _ ?_ h1 (by omega)).mono ?_; exact hx; rintro e w1 ⟨A', c', rfl, hb⟩; have hb := undrew hb; have g0 := h0.below hb)
    | (go_at_call 208; refine (tget_nil tb pb _ _ _ _ ?_ ?_ ?_ (by omega) (by omega)).mono ?_; exact ht0.below hb; exact ht1.below hb; exact ha.below hb; rintro e w2 ⟨rfl, hb2⟩))
  all_goals
    go_simp
    go_wp2
    go_ret3
    exact ⟨rfl, hb.trans (hb2.mono hb.size)⟩
theorem spaced_none (w : World) (A : Option Addr) (c : Nat) : Calls Tryz.prog 179 #[.slice A 0 c] w fun e w' => e = .returned (.slice A 0 c) ∧ w = w' := by
  go_enter Tryz.func179, Tryz.ntmps179
  go_wp2_with fail
  refine wp_loop_rounds 1 ?_
  rw [rounds_succ]
  go_wp2
  go_ret
  exact ⟨rfl, rfl⟩
set_option maxHeartbeats 400000 in
theorem srange_any (sb : Nat) (s : Int) (A B : Option Addr) (n c m d : Nat) (xs ys : List Value) (most : Int) (w : World) (hs : StoreAt w sb) (hx : Rd w 1 A n xs) (h1 : ∀ u ∈ xs, u.oneCell' = true) (hy : Rd w 1 B m ys) (h2 : ∀ u ∈ ys, u.oneCell' = true)
    (h : 0 ≤ s) (hs2 : s < 16) (hn : n ≤ 60) (hm : m ≤ 60) (hmo : 0 ≤ most) :
    Calls Tryz.prog 124 #[.pointer (some ⟨sb, 0, none⟩), .int .i64 s, .slice A n c, .slice B m d, .int .i64 most] w fun e w' => e = .returned (.tuple #[.slice none 0 0, .int .i64 0]) ∧ Below w.heap.size w w' := by
  obtain ⟨tb, pb, h0, ht0, ht1, ha⟩ := hs
  go_enter Tryz.func124, Tryz.ntmps124
  go_wp2_with fail
  refine (tdead_any tb pb _ ht0 ha).mono ?_
  rintro e w' ⟨rfl, q, rfl⟩
  go_wp2_with fail
  have c0 := C.newD w q #[.slice A n c, .slice B m d] 105 0 rfl
  have c1 := C.newD w q #[.slice A n c, .slice B m d] 105 1 rfl
  refine wp_loop_rounds 3 ?_
  rw [rounds_succ]
  go_wp2_with (go_at_call 177; refine (lright_ok _ _ _ _ _ _ _ _ _ h hs2 (fun h => by cases h) (by omega) (by omega)).mono ?_; rintro e w' ⟨rfl, rfl⟩)
  rw [rounds_succ]
  go_wp2_with (go_at_call 177; refine (lright_ok _ _ _ _ _ _ _ _ _ h hs2 (fun h => by cases h) (by omega) (by omega)).mono ?_; rintro e w' ⟨rfl, rfl⟩)
  rw [rounds_succ]
  go_wp2_with fail
  have hb0 : Below w.heap.size w ((w.drewN q).alloc (.cells #[.slice A n c, .slice B m d] 105)) := (below_drewN (Below.refl _ _) q).alloc (Nat.le_refl _) _
  clear c0 c1
  generalize (w.drewN q).alloc (.cells #[.slice A n c, .slice B m d] 105) = W at *
  refine (in_any _ _ _ _ _ _ (hy.below hb0) h2 (by omega)).mono ?_
  rintro e w1 ⟨A1, c1, rfl, hb1⟩
  have hb1 := below_chain hb0 hb1
  go_wp2_with (go_at_call 178; refine (in_any _ none 0 0 [] _ (Rd.nil _ _ _) (by simp) (by omega)).mono ?_; rintro e w2 ⟨A2, c2, rfl, hb2⟩)
  · have HB := below_chain hb1 hb2
    have g0 := h0.below HB
    clear hb0 hb1 hb2
    go_region_with (first
      | (go_at_call 178; refine (in_any _ _ _ _ _ _ ?_ h1 (by omega)).mono ?_; exact hx.below (by (first | assumption | exact Below.drew (by assumption) | exact below_drewN (by assumption) _)); rintro e w3 ⟨A3, c3, rfl, hb3⟩; have hb3 := below_chain HB (undrewd hb3); have g0 := h0.below hb3)
      | (go_at_call 104; refine (range_nil tb pb _ _ _ _ _ _ _ _ ?_ ?_ ?_ hmo (by omega) (by omega)).mono ?_; exact ht0.below hb3; exact ht1.below hb3; exact ha.below hb3; rintro e w4 ⟨rfl, hb4⟩))
    all_goals
      go_wp2_with fail
      refine (spaced_none _ _ _).mono ?_
      rintro e w5 ⟨rfl, rfl⟩
      go_wp2
      go_ret2
      exact ⟨rfl, below_chain hb3 hb4⟩
  have HB := hb1
  have g0 := h0.below HB
  clear hb0 hb1
  go_region_with (first
    | (go_at_call 178; refine (in_any _ _ _ _ _ _ ?_ h1 (by omega)).mono ?_; exact hx.below (by (first | assumption | exact Below.drew (by assumption) | exact below_drewN (by assumption) _)); rintro e w3 ⟨A3, c3, rfl, hb3⟩; have hb3 := below_chain HB (undrewd hb3); have g0 := h0.below hb3)
    | (go_at_call 104; refine (range_nil tb pb _ _ _ _ _ _ _ _ ?_ ?_ ?_ hmo (by omega) (by omega)).mono ?_; exact ht0.below hb3; exact ht1.below hb3; exact ha.below hb3; rintro e w4 ⟨rfl, hb4⟩))
  all_goals
    go_wp2_with fail
    refine (spaced_none _ _ _).mono ?_
    rintro e w5 ⟨rfl, rfl⟩
    go_wp2
    go_ret2
    exact ⟨rfl, below_chain hb3 hb4⟩
theorem dright_ok (s : Int) (A B : Option Addr) (n m c d : Nat) (w : World) (h : 0 ≤ s) (h2 : s < 16) (h3 : 0 < n) (h4 : n ≤ 60) (h5 : m ≤ 1800):
    Calls Tryz.prog 110 #[.int .i64 s, .slice A n c, .slice B m d] w fun e w' => e = .returned (.int .i64 0) ∧ w = w' := by
  have hz : ((n : Int) == 0) = false := by simp; omega
  go_enter Tryz.func110, Tryz.ntmps110
  go_wp2
  go_ret
  exact ⟨rfl, rfl⟩
def bys (l : List UInt8) : List Value := l.map fun b => .int .u8 (b.toNat : Int)
@[simp] theorem bys_length (l : List UInt8) : (bys l).length = l.length := by simp [bys]
theorem bys_append (a b : List UInt8) : bys (a ++ b) = bys a ++ bys b := by simp [bys]
theorem bys_one (l : List UInt8) : ∀ u ∈ bys l, u.oneCell' = true := by
  intro u hu
  simp only [bys, List.mem_map] at hu
  obtain ⟨b, _, rfl⟩ := hu
  rfl
theorem bys_get (l : List UInt8) (i : Nat) (h : i < l.length) : (bys l)[i]? = some (.int .u8 (l[i].toNat : Int)) := by simp [bys, List.getElem?_eq_getElem h]
abbrev RB (w : World) (A : Option Addr) (n : Nat) (l : List UInt8) : Prop := Rd w 1 A n (bys l)
theorem RB.len {w : World} {A : Option Addr} {n : Nat} {l : List UInt8} (h : RB w A n l) : l.length = n := by have := h.1; simpa using this
theorem RB.at_ {w : World} {A : Option Addr} {n : Nat} {l : List UInt8} (h : RB w A n l) (i : Nat) (hi : i < n) : ∃ b o, A = some ⟨b, o, none⟩ ∧ C w b (o + i) (.int .u8 ((l[i]'(by rw [h.len]; exact hi)).toNat : Int)) := by
  obtain ⟨b, o, hA, hc⟩ := h.some_ (by omega)
  have hl := h.len
  exact ⟨b, o, hA, (hc i (by simp; omega)).trans (bys_get l i (by omega))⟩
theorem strOfNums_nat (l : List UInt8) : strOfNums (l.map fun b => (b.toNat : Int)) = ⟨l.toArray⟩ := by
  unfold strOfNums
  simp [List.map_map, Function.comp_def]
theorem ret_bool {a b : Bool} (h : a = b) : Ending.returned (.bool a) = .returned (.bool b) := by rw [h]
theorem ret_int {k : IntKind} {a b : Int} (h : a = b) : Ending.returned (.int k a) = .returned (.int k b) := by rw [h]
def strB (l : List UInt8) : ByteArray := ⟨l.toArray⟩
theorem conv_str {w : World} {A : Option Addr} {n : Nat} {l : List UInt8} (h : RB w A n l) (c : Nat) : (convert 105 9 (.slice A n c)).run Tryz.prog w = .ok (.string (strB l)) w := by
  have hl := h.len
  rcases h.2 with h0 | ⟨b, o, rfl, hc⟩
  · subst h0
    obtain rfl : l = [] := List.eq_nil_of_length_eq_zero hl
    rw [run_convert_bytes_string w 105 9 5 A 0 c Tryz.underlying105 Tryz.underlying5 Tryz.underlying9]
    cases A <;> simp [Conv.bytesToString, loadCells]
    all_goals rfl
  have := run_convert_bytes_arg (P := Tryz.prog) w 105 5 Tryz.underlying105 Tryz.underlying5 b o n c (l.map fun b => (b.toNat : Int)) (by simp [hl]) ?_ 9 Tryz.underlying9
  · rw [this]
    simp only [strOfNums_nat, strB]
  intro i hi
  rw [hc i (by simp; omega), bys_get l i (by omega)]
  simp [List.getD_eq_getElem?_getD, List.getElem?_eq_getElem (show i < l.length by omega)]
theorem beq_any (A B : Option Addr) (n c m d : Nat) (xs ys : List UInt8) (w : World) (hx : RB w A n xs) (hy : RB w B m ys) :
    Calls Tryz.prog 94 #[.slice A n c, .slice B m d] w fun e w' => e = .returned (.bool (decide (xs = ys))) ∧ w = w' := by
  have h1 := conv_str hx c
  have h2 := conv_str hy d
  go_enter Tryz.func94, Tryz.ntmps94
  go_wp2
  go_ret
  refine ⟨ret_bool ?_, rfl⟩
  rw [strB, strB, ByteArray.toList_mk, ByteArray.toList_mk]
  rw [Bool.eq_iff_iff]; simp
def cmpB : List UInt8 → List UInt8 → Int
  | [], [] => 0
  | [], _ :: _ => -1
  | _ :: _, [] => 1
  | x :: a, y :: b => if x < y then -1 else if y < x then 1 else cmpB a b
theorem cmp_eq (a b : List UInt8) : Extern.BytealgCompare.cmp ⟨a.toArray⟩ ⟨b.toArray⟩ = cmpB a b := by
  have key : ∀ (a b : List UInt8), (match (List.range (min a.length b.length)).find? fun i => a[i]! != b[i]! with
      | some i => if a[i]! < b[i]! then (-1 : Int) else 1
      | none => if a.length < b.length then -1 else if a.length > b.length then 1 else 0) = cmpB a b := by
    intro a
    induction a with
    | nil => intro b; cases b <;> simp [cmpB]
    | cons x a ih =>
      intro b
      cases b with
      | nil => simp [cmpB]
      | cons y b =>
        simp only [List.length_cons, Nat.add_min_add_right, List.range_succ_eq_map, List.find?_cons, List.getElem!_cons_zero, cmpB]
        by_cases hxy : x = y
        · subst hxy
          have hlt : ¬ x < x := UInt8.lt_irrefl x
          simp only [bne_self_eq_false, if_neg hlt, List.find?_map, Function.comp_def, List.getElem!_cons_succ]
          rw [← ih b]
          cases (List.range (min a.length b.length)).find? fun i => a[i]! != b[i]! with
          | none => simp
          | some i => simp
        have h1 : (x != y) = true := by simpa using hxy
        simp only [h1]
        by_cases hl : x < y
        · simp [hl]
        have h2 : y < x := by
          rcases Nat.lt_trichotomy x.toNat y.toNat with h | h | h
          · exact absurd (UInt8.lt_iff_toNat_lt.2 h) hl
          · exact absurd (UInt8.toNat_inj.1 h) hxy
          exact UInt8.lt_iff_toNat_lt.2 h
        simp [hl, h2]
  rw [← key a b]
  unfold Extern.BytealgCompare.cmp
  have hg : ∀ (l : List UInt8) (i : Nat), (⟨l.toArray⟩ : ByteArray)[i]! = l[i]! := by
    intro l i
    by_cases h : i < l.length
    · rw [getElem!_pos (⟨l.toArray⟩ : ByteArray) i h, getElem!_pos l i h]; rfl
    rw [getElem!_neg (⟨l.toArray⟩ : ByteArray) i h, getElem!_neg l i h]
  have hs : ∀ l : List UInt8, (⟨l.toArray⟩ : ByteArray).size = l.length := fun l => rfl
  simp only [hg, hs]
  rfl
theorem bytesOf_run {w : World} {A : Option Addr} {n : Nat} {l : List UInt8} (h : RB w A n l) (c : Nat) : (Extern.Bytes.bytesOf (.slice A n c)).run Tryz.prog w = .ok ⟨l.toArray⟩ w := by
  have hl := h.len
  rcases h.2 with h0 | ⟨b, o, rfl, hc⟩
  · subst h0
    obtain rfl : l = [] := List.eq_nil_of_length_eq_zero hl
    cases A <;> simp [Extern.Bytes.bytesOf, Extern.Bytes.loadBytes] <;> rfl
  have := Go.Lib.run_loadBytesX (P := Tryz.prog) w (l.map fun b => (b.toNat : Int)) ⟨b, o, none⟩ .empty ?_
  · simp only [Extern.Bytes.bytesOf]
    rw [List.length_map, hl] at this
    rw [this]
    congr 2
    have hb : Go.Lib.bytesOf (l.map fun b => (b.toNat : Int)) = l := by simp [Go.Lib.bytesOf, Function.comp_def]
    rw [hb]
    show (#[] : Array UInt8) ++ l.toArray = l.toArray
    simp
  intro j x hj
  obtain ⟨hj1, hj2⟩ := List.getElem?_eq_some_iff.1 hj
  simp only [List.length_map] at hj1
  rw [add_plain, hc j (by simp; omega), bys_get l j hj1]
  simp only [List.getElem_map] at hj2
  rw [hj2]
theorem bcmp_run {w : World} {A B : Option Addr} {n m : Nat} {xs ys : List UInt8} (hx : RB w A n xs) (hy : RB w B m ys) (c d : Nat) :
    (callFunc 149 #[.slice A n c, .slice B m d]).run Tryz.prog w = .ok (.value (.int .i64 (cmpB xs ys))) w := by
  rw [run_callFunc_extern (e := Extern.BytealgCompare.compare) Tryz.func149 (by kernel_rfl) (by kernel_rfl) (by kernel_rfl) (by kernel_rfl)]
  change Result.andThen (Sem.run Tryz.prog (do pure (goInt (Extern.BytealgCompare.cmp (← Extern.Bytes.bytesOf (.slice A n c)) (← Extern.Bytes.bytesOf (.slice B m d))))) w) _ = _
  simp only [Sem.run_bind, bytesOf_run hx, bytesOf_run hy, Result.andThen_ok, Sem.run_pure, cmp_eq, goInt]
theorem bcompare_any (A B : Option Addr) (n c m d : Nat) (xs ys : List UInt8) (w : World) (hx : RB w A n xs) (hy : RB w B m ys) :
    Calls Tryz.prog 97 #[.slice A n c, .slice B m d] w fun e w' => e = .returned (.int .i64 (cmpB xs ys)) ∧ w = w' := by
  have h1 := bcmp_run hx hy c d
  clear hx hy
  go_enter Tryz.func97, Tryz.ntmps97
  go_wp2
  go_ret
  exact ⟨rfl, rfl⟩
set_option maxRecDepth 100000 in
theorem bclone_any (A : Option Addr) (n c : Nat) (xs : List UInt8) (w : World) (hx : RB w A n xs) (hn : n ≤ 1000000000) :
    Calls Tryz.prog 70 #[.slice A n c] w fun e w' => ∃ v, e = .returned v ∧ w'.ownsRow w.heap.size 5 1 v n (bys xs) ∧ Below w.heap.size w w' := by
  rcases A with _ | a
  · have hn0 : n = 0 := by
      rcases hx.2 with h | ⟨b, o, h, _⟩
      · exact h
      cases h
    subst hn0
    have hx0 : xs = [] := List.eq_nil_of_length_eq_zero hx.len
    subst hx0
    have he := Go.Lib.run_eql_slice_nil (P := Tryz.prog) w 105 5 none 0 c 0 0 Tryz.underlying105
    go_enter Tryz.func70, Tryz.ntmps70
    go_wp2
    go_ret
    exact ⟨_, rfl, World.ownsRow_nil w w.heap.size 5 1, Below.refl _ _⟩
  have he := Go.Lib.run_eql_slice_nil (P := Tryz.prog) w 105 5 (some a) n c 0 0 Tryz.underlying105
  go_enter Tryz.func70, Tryz.ntmps70
  go_wp2_with (at_builtin; refine wp_app u8T rfl rfl (World.ownsRow_lit w _ 0 (Nat.le_refl _) (by decide) rfl) rfl (hx.alloc _) rfl (bys_one xs) (by omega) (by omega) (by simp) ?_; intro A' c' w1 hown hb hg hat)
  go_wp2
  go_ret
  exact ⟨_, rfl, by simpa using hown, ((Below.refl _ _).alloc (Nat.le_refl _) _).trans hb⟩
end Go.Proofs.YtekokogmnhlchaaGreatDoor
/-
  DERIVED: THE SHELF's CONTRACTS AT THIS DUMP, IN PLAIN WORDS (tools/lay-plain.mjs out of 'TryzShelfB.lean', which tools/lay-shelf.mjs wrote): THE SAME DECLARATIONS UNDER THE SAME NAMES: 'import', 'namespace', 'open', 'def', 'theorem' AND NOTHING ELSE: no command of the shelf's: FOR A HAND-IN. Each laying: the table of numbers ('.._ren') and one theorem, a field a fact of the dump's own or the kernel's comparison; each contract: ONE APPLICATION.
-/
namespace Go.Proofs
open Go.Shelf
def Tryz.lays119_ren : Go.Shelf.Ren := ⟨fun | 119 => 221 | n => n, fun | 21 => 21 | 4 => 4 | n => n, fun | n => n⟩
theorem Tryz.lays119 : Go.Proofs.Lays.n119 Tryz.prog Tryz.lays119_ren := {
  mixed := by kernel_rfl
  f119 := Tryz.func221.trans (congrArg some (by kernel_rfl))
  t4 := Tryz.underlying4
  a4 := Tryz.isAgg4
  z4 := Tryz.sizeOf4
  v4 := Tryz.zeroValue4
  t21 := Tryz.underlying21
  a21 := Tryz.isAgg21
  z21 := Tryz.sizeOf21
  v21 := Tryz.zeroValue21 }
theorem Tryz.utf8_ValidRune (r : Int) (w : World) :
    Calls Tryz.prog 221 #[.int .i32 r] w fun e w' => e = .returned (.bool (Lib.validRune r)) ∧ w' = w := Any.utf8_ValidRune Tryz.lays119 r w
def Tryz.lays110_ren : Go.Shelf.Ren := ⟨fun | 110 => 55 | 109 => 109 | n => n, fun | 31 => 47 | 9 => 9 | 4 => 4 | 3 => 3 | 0 => 0 | n => n, fun | n => n⟩
theorem Tryz.lays110 : Go.Proofs.Lays.n110 Tryz.prog Tryz.lays110_ren := {
  mixed := by kernel_rfl
  f109 := Tryz.func109.trans (congrArg some (by kernel_rfl))
  f110 := Tryz.func55.trans (congrArg some (by kernel_rfl))
  t0 := Tryz.underlying0
  a0 := Tryz.isAgg0
  z0 := Tryz.sizeOf0
  v0 := Tryz.zeroValue0
  t3 := Tryz.underlying3
  a3 := Tryz.isAgg3
  z3 := Tryz.sizeOf3
  v3 := Tryz.zeroValue3
  t4 := Tryz.underlying4
  a4 := Tryz.isAgg4
  z4 := Tryz.sizeOf4
  v4 := Tryz.zeroValue4
  t9 := Tryz.underlying9
  a9 := Tryz.isAgg9
  z9 := Tryz.sizeOf9
  v9 := Tryz.zeroValue9
  t31 := Tryz.underlying47
  a31 := Tryz.isAgg47
  z31 := Tryz.sizeOf47
  v31 := Tryz.zeroValue47 }
def Tryz.laysValid_ren : Go.Shelf.Ren := ⟨fun | 196 => 175 | 259 => 210 | n => n, fun | 9 => 9 | 4 => 4 | 3 => 3 | 5 => 5 | 12 => 12 | 119 => 300 | 0 => 0 | 46 => 217 | 139 => 303 | 138 => 302 | 53 => 166 | n => n, fun | 3 => 1 | 4 => 2 | n => n⟩
theorem Tryz.laysValid : Go.Proofs.Lays.n196 Tryz.prog Tryz.laysValid_ren := {
  mixed := by kernel_rfl
  f196 := Tryz.func175.trans (congrArg some (by kernel_rfl))
  f259 := Tryz.func210.trans (congrArg some (by kernel_rfl))
  t0 := Tryz.underlying0
  a0 := Tryz.isAgg0
  z0 := Tryz.sizeOf0
  v0 := Tryz.zeroValue0
  t3 := Tryz.underlying3
  a3 := Tryz.isAgg3
  z3 := Tryz.sizeOf3
  v3 := Tryz.zeroValue3
  t4 := Tryz.underlying4
  a4 := Tryz.isAgg4
  z4 := Tryz.sizeOf4
  v4 := Tryz.zeroValue4
  t5 := Tryz.underlying5
  a5 := Tryz.isAgg5
  z5 := Tryz.sizeOf5
  v5 := Tryz.zeroValue5
  t9 := Tryz.underlying9
  a9 := Tryz.isAgg9
  z9 := Tryz.sizeOf9
  v9 := Tryz.zeroValue9
  t12 := Tryz.underlying12
  a12 := Tryz.isAgg12
  z12 := Tryz.sizeOf12
  v12 := Tryz.zeroValue12
  t46 := Tryz.underlying217
  a46 := Tryz.isAgg217
  z46 := Tryz.sizeOf217
  v46 := Tryz.zeroValue217
  t53 := Tryz.underlying166
  a53 := Tryz.isAgg166
  z53 := Tryz.sizeOf166
  v53 := Tryz.zeroValue166
  t119 := Tryz.underlying300
  a119 := Tryz.isAgg300
  z119 := Tryz.sizeOf300
  t138 := Tryz.underlying302
  a138 := Tryz.isAgg302
  z138 := Tryz.sizeOf302
  v138 := Tryz.zeroValue302
  t139 := Tryz.underlying303
  a139 := Tryz.isAgg303
  z139 := Tryz.sizeOf303
  v139 := Tryz.zeroValue303
  g3 := by kernel_rfl
  g4 := by kernel_rfl }
end Go.Proofs
namespace Go.Proofs.YtekokogmnhlchaaGreatDoor
open Go.Lib
def runesGo : Nat → List UInt8 → List Nat
  | 0, _ => []
  | n + 1, l => if l = [] then [] else (decodeL l).1 :: runesGo n (l.drop (decodeL l).2)
def runesL (l : List UInt8) : List Nat := runesGo l.length l
theorem runesGo_fuel : ∀ (n m : Nat) (l : List UInt8), l.length ≤ n → l.length ≤ m → runesGo n l = runesGo m l
  | 0, 0, _, _, _ => rfl
  | 0, m + 1, l, h, _ => by
    have : l = [] := List.eq_nil_of_length_eq_zero (by omega)
    subst this
    simp [runesGo]
  | n + 1, 0, l, _, h => by
    have : l = [] := List.eq_nil_of_length_eq_zero (by omega)
    subst this
    simp [runesGo]
  | n + 1, m + 1, l, h1, h2 => by
    unfold runesGo
    by_cases hl : l = []
    · simp [hl]
    rw [if_neg hl, if_neg hl]
    have hw := decodeL_width l
    have hp : 0 < l.length := List.length_pos_iff.2 hl
    rw [runesGo_fuel n m (l.drop (decodeL l).2) (by simp; omega) (by simp; omega)]
theorem runesL_nil : runesL [] = [] := rfl
theorem runesL_step (l : List UInt8) (h : l ≠ []) : runesL l = (decodeL l).1 :: runesL (l.drop (decodeL l).2) := by
  have hp : 0 < l.length := List.length_pos_iff.2 h
  have hw := decodeL_width l
  obtain ⟨n, hn⟩ : ∃ n, l.length = n + 1 := ⟨l.length - 1, by omega⟩
  conv => lhs; unfold runesL
  rw [hn, runesGo, if_neg h]
  congr 1
  exact runesGo_fuel _ _ _ (by simp; omega) (Nat.le_refl _)
theorem runesL_len : ∀ (n : Nat) (l : List UInt8), l.length ≤ n → (runesL l).length ≤ l.length
  | 0, l, h => by
    have : l = [] := List.eq_nil_of_length_eq_zero (by omega)
    subst this
    simp [runesL_nil]
  | n + 1, l, h => by
    by_cases hl : l = []
    · subst hl; simp [runesL_nil]
    rw [runesL_step l hl]
    have hp : 0 < l.length := List.length_pos_iff.2 hl
    have hw := decodeL_width l
    have ih := runesL_len n (l.drop (decodeL l).2) (by simp; omega)
    simp only [List.length_cons, List.length_drop] at ih ⊢
    omega
theorem runesL_le (l : List UInt8) : (runesL l).length ≤ l.length := runesL_len _ l (Nat.le_refl _)
theorem runesL_rune : ∀ (n : Nat) (l : List UInt8), l.length ≤ n → ∀ r ∈ runesL l, r ≤ 1114111
  | 0, l, h => by
    have : l = [] := List.eq_nil_of_length_eq_zero (by omega)
    subst this
    simp [runesL_nil]
  | n + 1, l, h => by
    by_cases hl : l = []
    · subst hl; simp [runesL_nil]
    rw [runesL_step l hl]
    have hp : 0 < l.length := List.length_pos_iff.2 hl
    have hw := decodeL_width l
    intro r hr
    rcases List.mem_cons.1 hr with rfl | hr
    · exact decodeL_rune l
    exact runesL_rune n (l.drop (decodeL l).2) (by simp; omega) r hr
theorem size_len (s : ByteArray) : s.size = s.data.toList.length := size_eq s
theorem drop_ne (s : ByteArray) (pos : Nat) (h : pos < s.size) : s.data.toList.drop pos ≠ [] := by
  intro h0
  have := congrArg List.length h0
  rw [List.length_drop, ← size_len] at this
  simp only [List.length_nil] at this
  omega
theorem decode_in (s : ByteArray) (pos : Nat) (h : pos < s.size) : pos + (Utf8.decode s pos).2 ≤ s.size := by
  have := decodeL_le (s.data.toList.drop pos) (drop_ne s pos h)
  rw [decodeL_drop, List.length_drop, ← size_len] at this
  omega
theorem decode_pos (s : ByteArray) (pos : Nat) : 1 ≤ (Utf8.decode s pos).2 := by
  rw [← decodeL_drop]
  exact decodeL_width _
theorem decode_rune (s : ByteArray) (pos : Nat) : (Utf8.decode s pos).1 ≤ 1114111 := by
  rw [← decodeL_drop]
  exact decodeL_rune _
theorem runes_at (s : ByteArray) (pos : Nat) (h : pos < s.size) : runesL (s.data.toList.drop pos) = (Utf8.decode s pos).1 :: runesL (s.data.toList.drop (pos + (Utf8.decode s pos).2)) := by
  rw [runesL_step _ (drop_ne s pos h), decodeL_drop, List.drop_drop]
theorem runes_end (s : ByteArray) (pos : Nat) (h : s.size ≤ pos) : runesL (s.data.toList.drop pos) = [] := by
  rw [List.drop_of_length_le (by rw [← size_len]; exact h), runesL_nil]
structure V where
  k : Int
  n : Int
  s : ByteArray
def nRunes (s : ByteArray) : Int := if validD s.data.toList then ((runesL s.data.toList).length : Int) else -1
def rightV (v : V) : Int :=
  if v.k < 0 ∨ 3 < v.k ∨ (v.k ≠ 2 ∧ v.s.data.toList ≠ []) ∨ ((v.k = 0 ∨ v.k = 2) ∧ v.n ≠ 0) ∨ (v.k = 3 ∧ v.n ≠ 0 ∧ v.n ≠ 1) then 1
  else if v.k = 2 ∧ validD v.s.data.toList = false then 12 else 0
def three (n : Nat) : List UInt8 := [UInt8.ofNat (n / 65536), UInt8.ofNat (n / 256), UInt8.ofNat n]
def eightB (u : Nat) : List UInt8 := (List.range 8).map fun i => UInt8.ofNat (u / 2 ^ (56 - 8 * i))
def runesB (s : ByteArray) : List UInt8 := (runesL s.data.toList).flatMap (fun r => three (r + 1)) ++ [0, 0, 0]
def keyV (v : V) : List UInt8 :=
  if v.k = 0 then [1] else if v.k = 3 then [4, UInt8.ofNat v.n.toNat] else if v.k = 1 then 2 :: eightB (v.n + 9223372036854775808).toNat else 3 :: runesB v.s
def keyL (l : List V) : List UInt8 := l.flatMap keyV
end Go.Proofs.YtekokogmnhlchaaGreatDoor
namespace Go.Proofs.YtekokogmnhlchaaGreatDoor
open Go.RowKit
def Tabs (w : World) : Prop := Lib.Utf8Tabs (Tryz.laysValid_ren.g 3) (Tryz.laysValid_ren.g 4) w
theorem Tabs.below {w w' : World} (h : Tabs w) (hb : Below w.heap.size w w') : Tabs w' := Utf8Tabs_below h hb
theorem valid_any (s : ByteArray) (w : World) (hs : s.size ≤ 9223372036854775807) (hT : Tabs w) :
    Calls Tryz.prog 175 #[.string s] w fun e w' => e = .returned (.bool (Lib.validD s.data.toList)) ∧ Below w.heap.size w w' := Any.utf8_ValidString Tryz.laysValid s w hs hT
set_option maxHeartbeats 400000 in
theorem runes_any (s : ByteArray) (w : World) (hs : s.size ≤ 9223372036854775807) (hT : Tabs w) :
    Calls Tryz.prog 114 #[.string s] w fun e w' => e = .returned (.int .i64 (nRunes s)) ∧ Below w.heap.size w w' := by
  obtain ⟨R, hR⟩ : ∃ R, nRunes s = R := ⟨_, rfl⟩
  have HR := hide hR
  rw [hR]
  clear hR
  by_cases hv : Lib.validD s.data.toList = true
  rotate_left
  · have hv2 : Lib.validD s.data.toList = false := by simpa using hv
    go_enter Tryz.func114, Tryz.ntmps114
    go_wp2_with fail
    refine (valid_any s _ hs hT).mono ?_
    rintro e w1 ⟨rfl, hb⟩
    rw [hv2]
    go_wp2
    go_ret
    refine ⟨ret_int ?_, hb⟩
    rw [← HR.out, nRunes, if_neg (by rw [hv2]; exact Bool.false_ne_true)]
  have hv' := Lib.hid hv
  go_enter Tryz.func114, Tryz.ntmps114
  go_wp2_with fail
  refine (valid_any s _ hs hT).mono ?_
  rintro e w1 ⟨rfl, hb⟩
  rw [hv]
  clear hv
  go_wp2_with fail
  have hit := World.iter_heap w1 s 0
  have hbi : Below w.heap.size w (w1.iter s 0) := hb.alloc hb.size _
  have hge : w.heap.size ≤ w1.heap.size := hb.size
  have Hit := hide hit
  clear hit hb hT
  go_loopw [3] (fun v wr => ∃ pos : Nat, pos ≤ s.size ∧ ∃ c : Nat, v = .int .i64 c ∧ c ≤ pos ∧ Hid (c + (runesL (s.data.toList.drop pos)).length = (runesL s.data.toList).length ∧ wr.heap[w1.heap.size]? = some (.stringIter s pos)) ∧ Below w.heap.size w wr) (fun _ wr => s.size - wr.iterPos w1.heap.size)
  case atStart => exact ⟨0, Nat.zero_le _, 0, rfl, Nat.le_refl _, hide ⟨by simp, Hit.out⟩, hbi⟩
  case round =>
    obtain ⟨pos, hpos, c, rfl, hc, HI, hbr⟩ := hrel
    obtain ⟨hcnt, hit⟩ := HI.out
    clear HI
    by_cases hlt : pos < s.size
    rotate_left
    · have hn := fun ty => Lib.run_next_end_at (P := Tryz.prog) wr w1.heap.size s pos ty hit hlt
      clear hit
      go_wp2
      go_ret
      refine ⟨ret_int ?_, hbr⟩
      rw [← HR.out, nRunes, if_pos hv'.out]
      rw [runes_end s pos (by omega), List.length_nil] at hcnt
      omega
    have hn := fun ty => Lib.run_next_any_at (P := Tryz.prog) wr w1.heap.size s pos ty hit hlt
    have hwp := decode_pos s pos
    have hwl := decode_in s pos hlt
    have hst : c + 1 + (runesL (s.data.toList.drop (pos + (Utf8.decode s pos).2))).length = (runesL s.data.toList).length := by
      rw [runes_at s pos hlt, List.length_cons] at hcnt
      omega
    have Hst := hide (And.intro hst (Lib.iterAt_heap wr w1.heap.size s pos (pos + (Utf8.decode s pos).2) hit))
    have hpos' := Hid.out (hide (iterPos_of hit))
    have Hp := hide hpos'
    have hb2 := Lib.below_iterAt hbr hge s (pos + (Utf8.decode s pos).2)
    have Hp2 := hide (iterPos_of (unhide Hst).2)
    clear hit hcnt hst hpos'
    generalize hwd : (Utf8.decode s pos).2 = wd at *
    generalize hrv : (Utf8.decode s pos).1 = rv at *
    clear hwd hrv
    go_wp2
    go_roundw
    case rel => exact ⟨pos + wd, hwl, c + 1, by go_num, by omega, Hst, hb2⟩
    case measure => rw [Hp.out, Hp2.out]; omega
end Go.Proofs.YtekokogmnhlchaaGreatDoor
