import Derived.Test.YtekokogmnhlchaaGreatDoorD2
import Derived.Deep.WholeRow
set_option linter.unusedSimpArgs false
set_option linter.unusedVariables false
set_option linter.unusedSectionVars false
namespace Go.Proofs.YtekokogmnhlchaaGreatDoor
open Go.RowKit
structure Aside (g : Nat) (w w' : World) : Prop where
  os : w'.os = w.os
  tape : w'.tape = w.tape
  output : w'.output = w.output
  size : w.heap.size ≤ w'.heap.size
  same : ∀ b, b < w.heap.size → b ≠ g → w'.heap[b]? = w.heap[b]?
theorem Aside.trans {g : Nat} {a b c : World} (h : Aside g a b) (k : Aside g b c) : Aside g a c :=
  ⟨k.os.trans h.os, k.tape.trans h.tape, k.output.trans h.output, Nat.le_trans h.size k.size, fun i hi hg => (k.same i (Nat.lt_of_lt_of_le hi h.size) hg).trans (h.same i hi hg)⟩
theorem Aside.grown {g : Nat} {w w' : World} {row : Option Nat} (h : w.grownBy w' row) (hr : ∀ b, row = some b → b = g) : Aside g w w' :=
  ⟨h.os, h.tape, h.output, h.size, fun b hb hg => h.block b hb (fun e => hg (hr b e.symm))⟩
theorem Aside.set (w : World) (a : Addr) (v : Value) : Aside a.block w (w.setCell a v) :=
  ⟨rfl, rfl, rfl, by simp [World.setCell], fun b _ hb => Below.heap_setCell w a v b hb⟩
theorem Aside.below {g : Nat} {w w' : World} (h : Below w.heap.size w w') : Aside g w w' := ⟨h.os, h.tape, h.output, h.size, fun b hb _ => h.block b hb⟩
section
variable {B0 db sb n g : Nat} {w0 w w' : World} {L : List Chg} {D : List Tb}
def Loose (B0 : Nat) (w : World) (g : Nat) : Prop := B0 ≤ g ∧ ∃ cs T fr, w.heap[g]? = some (.cells cs T fr) ∧ (T = 9 ∨ T = 3 ∨ T = 33)
theorem Loose.not_safe (hl : Loose B0 w g) : ¬ Safe B0 w g := fun hs => by
  obtain ⟨h1, cs, T, fr, h2, h3⟩ := hl
  rcases hs with h4 | ⟨cs', T', fr', h5, h6, _⟩
  · omega
  rw [h2] at h5
  injection h5 with h5
  injection h5 with _ h8 _
  subst h8
  rcases h3 with rfl | rfl | rfl <;> exact absurd h6 (by decide)
theorem Aside.safe (h : Aside g w w') (hl : Loose B0 w g) : ∀ b, b < w.heap.size → Safe B0 w b → w'.heap[b]? = w.heap[b]? := fun b hb hs =>
  h.same b hb fun e => hl.not_safe (e ▸ hs)
theorem Aside.rds (h : Aside g w w') (hl : Loose B0 w g) {k m : Nat} {A : Option Addr} {xs : List Value} (hr : RdS B0 w k A m xs) : RdS B0 w' k A m xs := hr.move h.size (h.safe hl)
theorem DraftAt.aside (hd : DraftAt B0 w db sb L) (h : Aside g w w') (hl : Loose B0 w g) : DraftAt B0 w' db sb L := by
  have hlt := hd.lt
  have hne : ∀ k, Foot w db k → k ≠ g := fun k hf e => by
    obtain ⟨_, cs, T, fr, h2, h3⟩ := hd.foot hf
    obtain ⟨_, cs', T', fr', h5, h6⟩ := hl
    subst e
    rw [h2] at h5
    injection h5 with h5
    injection h5 with _ h8 _
    subst h8
    rcases h3 with rfl | rfl <;> rcases h6 with h6 | h6 | h6 <;> exact absurd h6 (by decide)
  obtain ⟨A, c, xs, he, hB, hown, hE, hs⟩ := hd.ex
  refine ⟨A, c, xs, (h.same db hlt (hne db (.inl rfl))).trans he, hB, ?_, hE.mono fun x v _ hx => hx.move h.size (h.safe hl), hs.move (h.safe hl)⟩
  refine ⟨hown.1, ?_⟩
  rcases hown.2 with h0 | ⟨g', cap, cur, hv, hb, hh, hr⟩
  · exact .inl h0
  refine .inr ⟨g', cap, cur, hv, hb, ?_, hr⟩
  refine (h.same g' (Array.getElem?_eq_some_iff.1 hh).1 (hne g' (.inr ⟨_, _, _, _, he, ?_⟩))).trans hh
  rw [hv]; rfl
theorem St.aside (hs : St B0 w0 w db sb n D) (h : Aside g w w') (hl : Loose B0 w g) : St B0 w0 w' db sb n D := by
  obtain ⟨L, hd, hn⟩ := hs.ex
  have hB := hs.hB
  have hz := hs.b.size
  refine ⟨hB, ⟨h.os.trans hs.b.os, h.tape.trans hs.b.tape, h.output.trans hs.b.output, Nat.le_trans hz h.size, fun k hk => ?_⟩, L, ⟨hd.d.aside h hl, hd.rep, hd.cnt, hd.ok, hd.small, ?_, hd.b0⟩, hn⟩
  · exact (h.same k (by omega) (fun e => by have := hl.1; omega)).trans (hs.b.block k hk)
  have h3 := hd.b0
  have hg := hl.1
  have mv : ∀ {b o : Nat} {v : Value}, b < 3 → C w b o v → C w' b o v := fun {b o v} hb hc => (World.cell?_of_block (w := w) (w' := w') (a := ⟨b, o, none⟩) (h.same b hc.lt (by omega))).trans hc
  exact ⟨fun c hc => mv (show (1 : Nat) < 3 by omega) (hd.tabs.1 c hc), fun i hi => ⟨mv (show (2 : Nat) < 3 by omega) (hd.tabs.2 i hi).1, mv (show (2 : Nat) < 3 by omega) (hd.tabs.2 i hi).2⟩⟩
theorem OpsAt.aside {l : List OpV} {A : Option Addr} {m : Nat} (ho : OpsAt B0 w A m l) (h : Aside g w w') (hl : Loose B0 w g) : OpsAt B0 w' A m l := by
  obtain ⟨hm, xs, hr, hE⟩ := ho
  refine ⟨hm, xs, h.rds hl hr, hE.mono fun o cs _ ho => ?_⟩
  obtain ⟨CA, cc, XA, xc, RA, rc, e, h1, h2, h3, h4, h5, h6⟩ := ho
  exact ⟨CA, cc, XA, xc, RA, rc, e, h1, h2, h3, h.rds hl h4, h.rds hl h5, h.rds hl h6⟩
end
def namesD (D : List Tb) : List ByteArray := D.map fun T => T.s.name
def cntsD (D : List Tb) : List Int := D.map fun T => (T.rows.length : Int)
theorem namesD_len (D : List Tb) : (namesD D).length = D.length := by simp [namesD]
theorem findT_go {nm : ByteArray} : ∀ {D : List Tb} {k j : Nat} {T : Tb}, (∀ i, i < k → ∀ (U : Tb), D[i]? = some U → U.s.name ≠ nm) → D[k]? = some T → T.s.name = nm → findT D nm j = some (j + k, T)
  | [], k, j, T, _, h, _ => by simp at h
  | U :: D, 0, j, T, _, h, hn => by
    simp at h
    subst h
    simp [findT, hn]
  | U :: D, k + 1, j, T, hb, h, hn => by
    have h0 := hb 0 (by omega) U (by simp)
    rw [findT, if_neg h0]
    have hb' : ∀ i, i < k → ∀ V, D[i]? = some V → V.s.name ≠ nm := fun i hi V hV => hb (i + 1) (by omega) V (by simpa using hV)
    have := findT_go (j := j + 1) hb' (by simpa using h) hn
    rw [this]
    congr 2
    omega
theorem findT_no {nm : ByteArray} : ∀ {D : List Tb} {j : Nat}, (∀ (i : Nat) (U : Tb), D[i]? = some U → U.s.name ≠ nm) → findT D nm j = none
  | [], _, _ => rfl
  | U :: D, j, h => by
    rw [findT, if_neg (h 0 U (by simp))]
    exact findT_no fun i V hV => h (i + 1) V (by simpa using hV)
def Sought (D : List Tb) (nm : ByteArray) (k : Nat) : Prop := k ≤ D.length ∧ ∀ i, i < k → ∀ U, D[i]? = some U → U.s.name ≠ nm
theorem Sought.zero (D : List Tb) (nm : ByteArray) : Sought D nm 0 := ⟨Nat.zero_le _, fun i hi => by omega⟩
theorem Sought.succ {D : List Tb} {nm : ByteArray} {k : Nat} (h : Sought D nm k) (hk : k < D.length) (hn : (namesD D)[k]'(by rw [namesD_len]; exact hk) ≠ nm) : Sought D nm (k + 1) := by
  refine ⟨hk, fun i hi U hU => ?_⟩
  by_cases hik : i = k
  · subst hik
    have : U = D[i] := by
      rw [List.getElem?_eq_getElem hk] at hU; exact (Option.some.inj hU).symm
    subst this
    simpa [namesD] using hn
  exact h.2 i (by omega) U hU
def Found (D : List Tb) (nm : ByteArray) (k : Nat) : Prop := (k = D.length ∧ findT D nm 0 = none) ∨ (∃ T, D[k]? = some T ∧ findT D nm 0 = some (k, T))
theorem Sought.none {D : List Tb} {nm : ByteArray} (h : Sought D nm D.length) : Found D nm D.length := by
  exact .inl ⟨rfl, findT_no fun i U hU => h.2 i (List.getElem?_eq_some_iff.1 hU).1 U hU⟩
def ints (l : List Int) : List Value := l.map fun x => .int .i64 x
theorem own_upd {B0 db sb n : Nat} {w0 w w' : World} {D : List Tb} (st : St B0 w0 w db sb n D) {base e k m : Nat} {v : Value} {xs : List Value} (h : w.ownsRow base e k v m xs) (h1 : e ≠ 136) (h2 : e ≠ 155) (hu : Upd db w w') : w'.ownsRow base e k v m xs := by
  refine ⟨h.1, ?_⟩
  rcases h.2 with h0 | ⟨g, cap, cur, hv, hb, hh, hr⟩
  · exact .inl h0
  have hblk : Blk w g cur e := hh
  exact .inr ⟨g, cap, cur, hv, hb, st.blk hblk h1 h2 hu, hr⟩
structure Inv (base : Nat) (w : World) (nv cv : Value) (D : List Tb) : Prop where
  N : w.ownsRow base 9 1 nv D.length (strs (namesD D))
  K : w.ownsRow base 3 1 cv D.length (ints (cntsD D))
  ne : ∀ g, nv.ownBlock = some g → cv.ownBlock ≠ some g
  nf : ∃ A c, nv = .slice A D.length c
  kf : ∃ A c, cv = .slice A D.length c
theorem Inv.below {base : Nat} {w w' : World} {nv cv : Value} {D : List Tb} (h : Inv base w nv cv D) (hb : Below w.heap.size w w') : Inv base w' nv cv D := ⟨own_below h.N hb, own_below h.K hb, h.ne, h.nf, h.kf⟩
theorem Inv.upd {B0 db sb n : Nat} {w0 w w' : World} {D0 D : List Tb} {base : Nat} {nv cv : Value} (h : Inv base w nv cv D) (st : St B0 w0 w db sb n D0) (hu : Upd db w w') : Inv base w' nv cv D :=
  ⟨own_upd st h.N (by decide) (by decide) hu, own_upd st h.K (by decide) (by decide) hu, h.ne, h.nf, h.kf⟩
theorem Inv.name {base : Nat} {w : World} {nv cv : Value} {D : List Tb} (h : Inv base w nv cv D) {j : Nat} (hj : j < D.length) : ∃ g c, nv = .slice (some ⟨g, 0, none⟩) D.length c ∧ w.cell? ⟨g, j, none⟩ = some (.string ((namesD D)[j]'(by rw [namesD_len]; exact hj))) := by
  rcases h.N.2 with ⟨_, h0⟩ | ⟨g, cap, cur, hv, _⟩
  · omega
  have hN := h.N
  rw [hv] at hN
  refine ⟨g, cap, hv, ?_⟩
  rw [hN.cellAt j (by omega), strs, List.getElem?_map, List.getElem?_eq_getElem (by rw [namesD_len]; exact hj)]
  rfl
theorem Inv.cnt {base : Nat} {w : World} {nv cv : Value} {D : List Tb} (h : Inv base w nv cv D) {j : Nat} (hj : j < D.length) {x : Int} (hx : (cntsD D)[j]? = some x) : ∃ g c, cv = .slice (some ⟨g, 0, none⟩) D.length c ∧ w.cell? ⟨g, j, none⟩ = some (.int .i64 x) ∧ w.frozen? ⟨g, j, none⟩ = false := by
  rcases h.K.2 with ⟨_, h0⟩ | ⟨g, cap, cur, hv, _⟩
  · omega
  have hK := h.K
  rw [hv] at hK
  refine ⟨g, cap, hv, ?_, hK.frozenAt j⟩
  rw [hK.cellAt j (by omega), ints, List.getElem?_map, hx]
  rfl
theorem own_loose {B0 : Nat} {w : World} {e k m : Nat} {v : Value} {xs : List Value} (h : w.ownsRow B0 e k v m xs) (he : e = 9 ∨ e = 3 ∨ e = 33) {g : Nat} (hv : v.ownBlock = some g) : Loose B0 w g := by
  rcases h.2 with ⟨h0, _⟩ | ⟨g', cap, cur, h0, hb, hh, _⟩
  · rw [h0] at hv; cases hv
  rw [h0] at hv
  have : g' = g := by simpa [Value.ownBlock] using hv
  subst this
  exact ⟨hb, cur, e, (0, 0), hh, he⟩
theorem grown_below {w w' : World} (hg : w.grownBy w' none) : Below w.heap.size w w' := ⟨hg.os, hg.tape, hg.output, hg.size, fun b hb => hg.block b hb (by simp)⟩
theorem St.grown {B0 db sb n : Nat} {w0 w w' : World} {D : List Tb} (hs : St B0 w0 w db sb n D) {e k m : Nat} {v : Value} {xs : List Value} (ho : w.ownsRow B0 e k v m xs) (he : e = 9 ∨ e = 3 ∨ e = 33) (hg : w.grownBy w' v.ownBlock) : St B0 w0 w' db sb n D := by
  cases hv : v.ownBlock with
  | none => rw [hv] at hg; exact hs.below (grown_below hg)
  | some g => exact hs.aside (Aside.grown hg (fun b hb => by rw [hv] at hb; exact (Option.some.inj hb).symm)) (own_loose ho he hv)
theorem OpsAt.grown {B0 : Nat} {w w' : World} {l : List OpV} {A : Option Addr} {m' : Nat} (hs : OpsAt B0 w A m' l) {e k m : Nat} {v : Value} {xs : List Value} (ho : w.ownsRow B0 e k v m xs) (he : e = 9 ∨ e = 3 ∨ e = 33) (hg : w.grownBy w' v.ownBlock) : OpsAt B0 w' A m' l := by
  cases hv : v.ownBlock with
  | none => rw [hv] at hg; exact hs.below (grown_below hg)
  | some g => exact hs.aside (Aside.grown hg (fun b hb => by rw [hv] at hb; exact (Option.some.inj hb).symm)) (own_loose ho he hv)
theorem Inv.push {base : Nat} {w4 w5 w6 : World} {nv cv : Value} {D D' : List Tb} (h0 : Inv base w4 nv cv D) {nm : ByteArray} {A5 A6 : Option Addr} {c5 c6 : Nat}
    (hN : w5.ownsRow base 9 1 (.slice A5 (D.length + 1) c5) (D.length + 1) (strs (namesD D) ++ [.string nm])) (hg5 : w4.grownBy w5 nv.ownBlock)
    (h5 : (Value.slice A5 (D.length + 1) c5).ownBlock = nv.ownBlock ∨ (Value.slice A5 (D.length + 1) c5).ownBlock = some (w4.heap.size + 1))
    (hK : w6.ownsRow base 3 1 (.slice A6 (D.length + 1) c6) (D.length + 1) (ints (cntsD D) ++ [.int .i64 0])) (hg6 : w5.grownBy w6 cv.ownBlock)
    (h6 : (Value.slice A6 (D.length + 1) c6).ownBlock = cv.ownBlock ∨ (Value.slice A6 (D.length + 1) c6).ownBlock = some (w5.heap.size + 1))
    (hl : D'.length = D.length + 1) (hn : namesD D' = namesD D ++ [nm]) (hc : cntsD D' = cntsD D ++ [0]) : Inv base w6 (.slice A5 (D.length + 1) c5) (.slice A6 (D.length + 1) c6) D' := by
  have hcv : ∀ g, cv.ownBlock = some g → g < w4.heap.size := fun g hg => (h0.K.lt g hg).2
  have hz : w4.heap.size ≤ w5.heap.size := hg5.size
  have h5lt : ∀ g, (Value.slice A5 (D.length + 1) c5).ownBlock = some g → g < w5.heap.size := fun g hg => (hN.lt g hg).2
  have hne : ∀ g, (Value.slice A5 (D.length + 1) c5).ownBlock = some g → cv.ownBlock ≠ some g := fun g hg hcg => by
    rcases h5 with h | h
    · rw [h] at hg; exact h0.ne g hg hcg
    have := hcv g hcg
    rw [h] at hg
    have := Option.some.inj hg
    omega
  refine ⟨?_, ?_, ?_, ?_, ?_⟩
  · rw [hl, hn]
    have : strs (namesD D ++ [nm]) = strs (namesD D) ++ [.string nm] := by simp [strs]
    rw [this]
    refine hN.kept hg6 ?_
    cases hv : (Value.slice A5 (D.length + 1) c5).ownBlock with
    | none => exact .inl rfl
    | some g => exact .inr fun he => hne g hv he.symm
  · rw [hl, hc]
    have : ints (cntsD D ++ [0]) = ints (cntsD D) ++ [.int .i64 0] := by simp [ints]
    rw [this]
    exact hK
  · intro g hg h6g
    rcases h6 with h | h
    · rw [h] at h6g; exact hne g hg h6g
    have := h5lt g hg
    rw [h] at h6g
    have := Option.some.inj h6g
    omega
  · exact ⟨A5, c5, by rw [hl]⟩
  exact ⟨A6, c6, by rw [hl]⟩
theorem Inv.store {base : Nat} {w : World} {nv : Value} {D D' : List Tb} {g c : Nat} (h : Inv base w nv (.slice (some ⟨g, 0, none⟩) D.length c) D) (j : Nat) (x : Int) (hn : namesD D' = namesD D) (hc : cntsD D' = (cntsD D).set j x) :
    Inv base (w.setCell ⟨g, j, none⟩ (.int .i64 x)) nv (.slice (some ⟨g, 0, none⟩) D.length c) D' ∧ w.grownBy (w.setCell ⟨g, j, none⟩ (.int .i64 x)) (some g) := by
  have hl : D'.length = D.length := by have := congrArg List.length hn; rwa [namesD_len, namesD_len] at this
  obtain ⟨h1, h2⟩ := h.K.stored j (.int .i64 x)
  refine ⟨⟨?_, ?_, h.ne, ?_, ?_⟩, h2⟩
  · rw [hl, hn]
    refine h.N.kept h2 ?_
    cases hv : nv.ownBlock with
    | none => exact .inl rfl
    | some g' => exact .inr fun he => h.ne g' hv (by simpa [Value.ownBlock] using he.symm)
  · rw [hl, hc]
    have : ints ((cntsD D).set j x) = (ints (cntsD D)).set j (.int .i64 x) := by simp [ints, List.map_set]
    rw [this]
    exact h1
  · obtain ⟨A, c', h0⟩ := h.nf
    exact ⟨A, c', by rw [hl]; exact h0⟩
  exact ⟨_, c, by rw [hl]⟩
theorem Inv.same {base : Nat} {w : World} {nv cv : Value} {D D' : List Tb} (h : Inv base w nv cv D) (hn : namesD D' = namesD D) (hc : cntsD D' = cntsD D) : Inv base w nv cv D' := by
  have hl : D'.length = D.length := by have := congrArg List.length hn; rwa [namesD_len, namesD_len] at this
  refine ⟨?_, ?_, h.ne, ?_, ?_⟩
  · rw [hl, hn]; exact h.N
  · rw [hl, hc]; exact h.K
  · rw [hl]; exact h.nf
  rw [hl]; exact h.kf
section
variable {P : Program} {w w' : World} {o : Oper} {a : Act} {K : Act → World → Prop} {Q : Exit → Act → World → Prop}
theorem oper_call {f : FuncId} {args : List Operand} {tys : Array TypeId} {vs : List Value} {R : Ending → World → Prop}
    (ho : o.op = .call { callee := .value (.func f), args := args.toArray, argTypes := tys }) (hv : args.map a.eval = vs)
    (hi : (invoke (.fn (.func f) #[]) vs.toArray).run P w = .ok (.enter f vs.toArray) w) (hc : Calls P f vs.toArray w R)
    (h : ∀ e w', R e w' → ∃ v, e = .returned v ∧ K (a.put o.dst v) w') : o.wp P a w K Q := by
  subst hv
  have key : (execOp a.eval o).run P w = .ok (.enter f (args.map a.eval).toArray) w := by
    unfold execOp
    simp [ho, resolve, Act.eval, Deferred.ofValue]
    exact hi
  unfold Oper.wp
  rw [key, Oper.upon_enter]
  refine hc.mono fun e w' hr => ?_
  obtain ⟨v, rfl, hk⟩ := h e w' hr
  exact hk
end
end Go.Proofs.YtekokogmnhlchaaGreatDoor
