import Derived.Test.YtekokogmnhlchaaGreatDoorD2
import Derived.Test.YtekokogmnhlchaaGreatDoorD3
import Derived.Test.YtekokogmnhlchaaGreatDoorD9
import Derived.Test.YtekokogmnhlchaaGreatDoorB5
import Derived.Deep.CutBlock
set_option linter.unusedSimpArgs false
set_option linter.unusedVariables false
namespace Go.Proofs.YtekokogmnhlchaaGreatDoor
open Go.RowKit
/-- An operation in new memory. -/
def OpNew (B0 N : Nat) (W : World) (o : OpV) (cs : List Value) : Prop := ∃ CA cc XA xc RA rc, cs = [.int .i64 o.k, .string o.tb, .string o.s.name, .slice CA o.s.cols.length cc, .slice XA o.s.ixs.length xc, .slice RA o.row.length rc,
    .int .i64 o.key.k, .int .i64 o.key.n, .string o.key.s, .int .i64 o.c, .int .i64 o.lo.k, .int .i64 o.lo.n, .string o.lo.s, .int .i64 o.hi.k, .int .i64 o.hi.n, .string o.hi.s, .int .i64 o.lim] ∧
  o.s.cols.length ≤ cc ∧ o.s.ixs.length ≤ xc ∧ o.row.length ≤ rc ∧ NewS B0 N W 3 CA o.s.cols.length (o.s.cols.flatMap Col.cells) ∧ NewS B0 N W 2 XA o.s.ixs.length (o.s.ixs.flatMap Ix.cells) ∧ NewS B0 N W 3 RA o.row.length (rowCells o.row)
/-! ## A block that no draft can lean on, by what it holds, is turned -/
/-- No byte, no pointer, no bool. -/
def Dull : Value → Prop
  | .int .u8 _ => False
  | .pointer _ => False
  | .bool _ => False
  | _ => True
section
variable {B0 db sb n g : Nat} {w0 w w' : World} {L : List Chg} {D : List Tb} {cs : Array Value} {t : TypeId}
theorem Dull.ne (hg : Blk w g cs t) (hd : ∀ v ∈ cs.toList, Dull v) {b o : Nat} {v : Value} (hc : C w b o v) (hv : ¬ Dull v) : b ≠ g := by
  rintro rfl
  unfold C at hc
  rw [cell_of_row w b o cs t (0, 0) hg] at hc
  exact hv (hd v (Array.mem_toList_iff.2 (Array.mem_of_getElem? hc)))
theorem RdS.off (hg : Blk w g cs t) (hd : ∀ v ∈ cs.toList, Dull v) (h : Aside g w w') {A : Option Addr} {m : Nat} {key : List UInt8} (hr : RdS B0 w 1 A m (bys key)) : RdS B0 w' 1 A m (bys key) := by
  rcases hr.2 with h0 | ⟨b, o, hA, hlt, hs⟩
  · exact ⟨⟨hr.1.1, .inl h0⟩, .inl h0⟩
  · rcases Nat.eq_zero_or_pos m with h0 | hp
    · exact ⟨⟨hr.1.1, .inl h0⟩, .inl h0⟩
    · have hl := hr.1.1
      have hk : (bys key).length = key.length := by simp [bys]
      rcases hr.1.2 with h0 | ⟨b', o', hA', hc⟩
      · omega
      · rw [hA] at hA'
        injection hA' with hA'
        injection hA' with e1 e2 _
        subst e1 e2
        have hbg : b ≠ g := by
          have h0 := hc 0 (by omega)
          have hkl : 0 < key.length := by omega
          have : (bys key)[0]? = some (.int .u8 ((key[0]).toNat : Int)) := by simp [bys, hkl]
          rw [this] at h0
          exact Dull.ne hg hd h0 (by simp [Dull])
        have hbl := h.same b hlt hbg
        exact ⟨⟨hr.1.1, .inr ⟨b, o, hA, fun j hj => (World.cell?_of_block (w := w) (w' := w') (a := ⟨b, o + j, none⟩) hbl).trans (hc j hj)⟩⟩, .inr ⟨b, o, hA, Nat.lt_of_lt_of_le hlt h.size, hs.move hbl⟩⟩
theorem StoreS.off (hg : Blk w g cs t) (hd : ∀ v ∈ cs.toList, Dull v) (h : Aside g w w') (hs : StoreS B0 w sb) : StoreS B0 w' sb := by
  obtain ⟨tb, pb, kb, life, h1, h2, h3, h4, h5, h6, h7, s1, s2, s3, s4⟩ := hs
  have n1 := Dull.ne hg hd h1 (by simp [Dull])
  have n2 := Dull.ne hg hd h2 (by simp [Dull])
  have n3 := Dull.ne hg hd h4 (by simp [Dull])
  have n4 := Dull.ne hg hd h6 (by simp [Dull])
  have mv : ∀ {b o : Nat} {v : Value}, C w b o v → b ≠ g → C w' b o v := fun {b o v} hc hb => (World.cell?_of_block (w := w) (w' := w') (a := ⟨b, o, none⟩) (h.same b hc.lt hb)).trans hc
  exact ⟨tb, pb, kb, life, mv h1 n1, mv h2 n2, mv h3 n2, mv h4 n3, mv h5 n3, mv h6 n4, mv h7 n4, s1.move (h.same _ h1.lt n1), s2.move (h.same _ h2.lt n2), s3.move (h.same _ h4.lt n3), s4.move (h.same _ h6.lt n4)⟩
theorem DraftAt.off (hdr : DraftAt B0 w db sb L) (hg : Blk w g cs t) (hd : ∀ v ∈ cs.toList, Dull v) (h1 : t ≠ 136) (h2 : t ≠ 155) (h : Aside g w w') : DraftAt B0 w' db sb L := by
  have hlt := hdr.lt
  have hne : ∀ k, Foot w db k → k ≠ g := fun k hf e => by
    obtain ⟨_, cs', T, fr, h3, h4⟩ := hdr.foot hf
    subst e
    have hg' : w.heap[k]? = _ := hg
    rw [h3] at hg'
    injection hg' with hg'
    injection hg' with _ h8 _
    subst h8
    exact h4.elim h1 h2
  obtain ⟨A, c, xs, he, hB, hown, hE, hs⟩ := hdr.ex
  refine ⟨A, c, xs, (h.same db hlt (hne db (.inl rfl))).trans he, hB, ?_, hE.mono fun x v _ hx => ?_, hs.off hg hd h⟩
  · refine ⟨hown.1, ?_⟩
    rcases hown.2 with h0 | ⟨g', cap, cur, hv, hb, hh, hr⟩
    · exact .inl h0
    · refine .inr ⟨g', cap, cur, hv, hb, ?_, hr⟩
      refine (h.same g' (Array.getElem?_eq_some_iff.1 hh).1 (hne g' (.inr ⟨_, _, _, _, he, ?_⟩))).trans hh
      rw [hv]; rfl
  · obtain ⟨A, n, c1, B, m, d, hx, k1, k2⟩ := hx
    exact ⟨A, n, c1, B, m, d, hx, k1.off hg hd h, k2.off hg hd h⟩
theorem St.off (st : St B0 w0 w db sb n D) (hg : Blk w g cs t) (hd : ∀ v ∈ cs.toList, Dull v) (h1 : t ≠ 136) (h2 : t ≠ 155) (h : Aside g w w') (h3 : 3 ≤ g) : St B0 w' w' db sb n D := by
  obtain ⟨L, hdb, hn⟩ := st.ex
  refine ⟨Nat.le_trans st.le h.size, Below.refl _ _, L, ⟨hdb.d.off hg hd h1 h2 h, hdb.rep, hdb.cnt, hdb.ok, hdb.small, ?_, hdb.b0⟩, hn⟩
  have mv : ∀ {b o : Nat} {v : Value}, b < 3 → C w b o v → C w' b o v := fun {b o v} hb hc => (World.cell?_of_block (w := w) (w' := w') (a := ⟨b, o, none⟩) (h.same b hc.lt (by omega))).trans hc
  exact ⟨fun c hc => mv (show (1 : Nat) < 3 by omega) (hdb.tabs.1 c hc), fun i hi => ⟨mv (show (2 : Nat) < 3 by omega) (hdb.tabs.2 i hi).1, mv (show (2 : Nat) < 3 by omega) (hdb.tabs.2 i hi).2⟩⟩
theorem Aside.setRow (w : World) (b : Nat) (cs : Array Value) : Aside b w (w.setRow b cs) :=
  ⟨rfl, rfl, rfl, by rw [size_setRow]; exact Nat.le_refl _, fun k _ hk => heap_setRow_ne w b cs k hk⟩
end
set_option maxHeartbeats 3200000 in
set_option maxRecDepth 1000000 in
theorem op_new (B0 : Nat) (o : OpV) (cs : List Value) (w : World) (h : OpAt B0 w o cs) :
    Calls Tryz.prog 16 #[.agg cs.toArray] w fun e w' => ∃ cs', e = .returned (.agg cs'.toArray) ∧ OpNew B0 w.heap.size w' (cut4 o) cs' ∧ Below w.heap.size w w' := by
  obtain ⟨CA, cc, XA, xc, RA, rc, rfl, h1, h2, h3, hC, hX, hR⟩ := h
  obtain ⟨k, tb, ⟨nm, cols, ixs⟩, row, K, c, lo, hi, lim⟩ := o
  simp only at h1 h2 h3 hC hX hR ⊢
  have hR4 := Rd.take_ V.cells_len row rfl hR.rd (min (row.length : Int) 4).toNat (by omega)
  have hC4 := Rd.take_ Col.cells_len cols rfl hC.rd (min (cols.length : Int) 4).toNat (by omega)
  have hX4 := Rd.take_ Ix.cells_len ixs rfl hX.rd (min (ixs.length : Int) 4).toNat (by omega)
  rw [take_min row _ rfl] at hR4
  rw [take_min cols _ rfl] at hC4
  rw [take_min ixs _ rfl] at hX4
  obtain ⟨nr, hnr⟩ : ∃ nr, row.length = nr := ⟨_, rfl⟩
  obtain ⟨nc, hnc⟩ : ∃ nc, cols.length = nc := ⟨_, rfl⟩
  obtain ⟨nx, hnx⟩ : ∃ nx, ixs.length = nx := ⟨_, rfl⟩
  rw [hnr] at h3 hR4 ⊢
  rw [hnc] at h1 hC4 ⊢
  rw [hnx] at h2 hX4 ⊢
  have hb0 := ((Below.refl w.heap.size w).alloc (Nat.le_refl _) (.cells #[.int .i64 k, .string tb, .string nm, .slice CA nc cc, .slice XA nx xc, .slice RA nr rc, .int .i64 K.k, .int .i64 K.n, .string K.s, .int .i64 c, .int .i64 lo.k, .int .i64 lo.n, .string lo.s, .int .i64 hi.k, .int .i64 hi.n, .string hi.s, .int .i64 lim] 35))
  have hb1 := hb0.alloc hb0.size (.cells #[.int .i64 0, .string ⟨#[]⟩, .string ⟨#[]⟩, .slice none 0 0, .slice none 0 0, .slice none 0 0, .int .i64 0, .int .i64 0, .string ⟨#[]⟩, .int .i64 0, .int .i64 0, .int .i64 0, .string ⟨#[]⟩, .int .i64 0, .int .i64 0, .string ⟨#[]⟩, .int .i64 0] 35)
  have hk1 := (Blk.new w #[.int .i64 k, .string tb, .string nm, .slice CA nc cc, .slice XA nx xc, .slice RA nr rc, .int .i64 K.k, .int .i64 K.n, .string K.s, .int .i64 c, .int .i64 lo.k, .int .i64 lo.n, .string lo.s, .int .i64 hi.k, .int .i64 hi.n, .string hi.s, .int .i64 lim] 35)
  have e1 : (w.alloc (.cells #[.int .i64 k, .string tb, .string nm, .slice CA nc cc, .slice XA nx xc, .slice RA nr rc, .int .i64 K.k, .int .i64 K.n, .string K.s, .int .i64 c, .int .i64 lo.k, .int .i64 lo.n, .string lo.s, .int .i64 hi.k, .int .i64 hi.n, .string hi.s, .int .i64 lim] 35)).heap.size = w.heap.size + 1 := by simp
  have hk2 := Blk.new (w.alloc (.cells #[.int .i64 k, .string tb, .string nm, .slice CA nc cc, .slice XA nx xc, .slice RA nr rc, .int .i64 K.k, .int .i64 K.n, .string K.s, .int .i64 c, .int .i64 lo.k, .int .i64 lo.n, .string lo.s, .int .i64 hi.k, .int .i64 hi.n, .string hi.s, .int .i64 lim] 35)) #[.int .i64 0, .string ⟨#[]⟩, .string ⟨#[]⟩, .slice none 0 0, .slice none 0 0, .slice none 0 0, .int .i64 0, .int .i64 0, .string ⟨#[]⟩, .int .i64 0, .int .i64 0, .int .i64 0, .string ⟨#[]⟩, .int .i64 0, .int .i64 0, .string ⟨#[]⟩, .int .i64 0] 35
  rw [e1] at hk2
  obtain ⟨W0, hW0⟩ : ∃ W0, (w.alloc (.cells #[.int .i64 k, .string tb, .string nm, .slice CA nc cc, .slice XA nx xc, .slice RA nr rc, .int .i64 K.k, .int .i64 K.n, .string K.s, .int .i64 c, .int .i64 lo.k, .int .i64 lo.n, .string lo.s, .int .i64 hi.k, .int .i64 hi.n, .string hi.s, .int .i64 lim] 35)).alloc (.cells #[.int .i64 0, .string ⟨#[]⟩, .string ⟨#[]⟩, .slice none 0 0, .slice none 0 0, .slice none 0 0, .int .i64 0, .int .i64 0, .string ⟨#[]⟩, .int .i64 0, .int .i64 0, .int .i64 0, .string ⟨#[]⟩, .int .i64 0, .int .i64 0, .string ⟨#[]⟩, .int .i64 0] 35) = W0 := ⟨_, rfl⟩
  have hk1' := hk1.alloc (.cells #[.int .i64 0, .string ⟨#[]⟩, .string ⟨#[]⟩, .slice none 0 0, .slice none 0 0, .slice none 0 0, .int .i64 0, .int .i64 0, .string ⟨#[]⟩, .int .i64 0, .int .i64 0, .int .i64 0, .string ⟨#[]⟩, .int .i64 0, .int .i64 0, .string ⟨#[]⟩, .int .i64 0] 35)
  rw [hW0] at hb1 hk1' hk2
  have HB0 := hide hb1
  have HK1 := hide hk1'
  have HK2 := hide hk2
  have HR4 := hide (hR4.below hb1)
  have HC4 := hide hC4
  have HX4 := hide hX4
  have m3 := hk1'.c 3 (v := .slice CA nc cc) rfl
  have m4 := hk1'.c 4 (v := .slice XA nx xc) rfl
  have m5 := hk1'.c 5 (v := .slice RA nr rc) rfl
  have hw1 : w.heap.size + 1 < W0.heap.size := hk2.lt
  have Hnr := hide hnr
  have Hnc := hide hnc
  have Hnx := hide hnx
  clear hb0 hb1 hk1 hk1' hk2 e1 hR4 hC4 hX4 hC hX hR hnr hnc hnx
  go_enter Tryz.func16, Tryz.ntmps16
  go_upto_region 5 with (first
    | (at_builtin; refine wp_app (base := w.heap.size) (n := 0) (xs := []) valT rfl rfl (World.ownsRow_nil _ _ _ _) rfl HR4.out rfl (rowCells_one _) (by omega) (by omega) (by omega) ?_; intro A5 c5 w5 hown5 hb5 hg5 hat5; have N5 := hide (new_of (B0 := B0) hown5 (by decide) (by decide) hat5); have L5 := hide (own_form hown5); have K15 := HK1.out.far hg5 (by simp [Value.ownBlock]); have K25 := hide (HK2.out.far hg5 (by simp [Value.ownBlock])); have G5 := hide hg5; have q5 := K15.c 5 (v := .slice RA nr rc) rfl; have f5 := K15.fr 5; have K15 := hide K15; have HB5 := hide hb5; clear hown5 hb5 hat5 hg5)
    | fail)
  rw [Nat.zero_add] at N5 L5
  have hL5 : (min (nr : Int) 4).toNat ≤ c5 := by
    obtain ⟨A', c', he, hle, _⟩ := L5.out
    injection he with _ _ he
    omega
  have J5 := K15.out.set 5 (.slice A5 (min (nr : Int) 4).toNat c5)
  have J5 : Blk _ w.heap.size #[.int .i64 k, .string tb, .string nm, .slice CA nc cc, .slice XA nx xc, .slice A5 (min (nr : Int) 4).toNat c5, .int .i64 K.k, .int .i64 K.n, .string K.s, .int .i64 c, .int .i64 lo.k, .int .i64 lo.n, .string lo.s, .int .i64 hi.k, .int .i64 hi.n, .string hi.s, .int .i64 lim] 35 := J5
  have I5 := K25.out.set_other (a := ⟨w.heap.size, 5, none⟩) (by show w.heap.size + 1 ≠ w.heap.size; omega) (.slice A5 (min (nr : Int) 4).toNat c5)
  have P5 := hide (NewS.set N5.out (p := ⟨w.heap.size, 5, none⟩) (by show w.heap.size < _; omega) (.slice A5 (min (nr : Int) 4).toNat c5))
  have z5 := HB5.out.size
  have B5 := hide ((HB0.out.trans HB5.out).setCell (p := ⟨w.heap.size, 5, none⟩) (Nat.le_refl _) (.slice A5 (min (nr : Int) 4).toNat c5))
  generalize hV5 : w5.setCell ⟨w.heap.size, 5, none⟩ (.slice A5 (min (nr : Int) 4).toNat c5) = V5 at *
  as_aux_lemma =>
    have HK1 := hide J5
    have HK2 := hide I5
    have HC4 := hide (HC4.out.below B5.out)
    have m3 := J5.c 3 (v := .slice CA nc cc) rfl
    have hz5 : W0.heap.size ≤ V5.heap.size := by rw [← hV5]; simpa [World.setCell] using z5
    clear m4 m5 q5 f5 J5 I5 K15 K25 L5 N5 HB5 G5
    go_upto_region 6 with (first
      | (at_builtin; refine wp_app (base := w.heap.size) (n := 0) (xs := []) colT rfl rfl (World.ownsRow_nil _ _ _ _) rfl HC4.out rfl (col_one _) (by omega) (by omega) (by omega) ?_; intro A6 c6 w6 hown6 hb6 hg6 hat6; have N6 := hide (new_of (B0 := B0) hown6 (by decide) (by decide) hat6); have L6 := hide (own_form hown6); have K16 := HK1.out.far hg6 (by simp [Value.ownBlock]); have K26 := hide (HK2.out.far hg6 (by simp [Value.ownBlock])); have G6 := hide hg6; have q6 := K16.c 3 (v := .slice CA nc cc) rfl; have f6 := K16.fr 3; have K16 := hide K16; have HB6 := hide hb6; clear hown6 hb6 hat6 hg6)
      | fail)
    rw [Nat.zero_add] at N6 L6
    have hL6 : (min (nc : Int) 4).toNat ≤ c6 := by
      obtain ⟨A', c', he, hle, _⟩ := L6.out
      injection he with _ _ he
      omega
    have J6 := K16.out.set 3 (.slice A6 (min (nc : Int) 4).toNat c6)
    have J6 : Blk _ w.heap.size #[.int .i64 k, .string tb, .string nm, .slice A6 (min (nc : Int) 4).toNat c6, .slice XA nx xc, .slice A5 (min (nr : Int) 4).toNat c5, .int .i64 K.k, .int .i64 K.n, .string K.s, .int .i64 c, .int .i64 lo.k, .int .i64 lo.n, .string lo.s, .int .i64 hi.k, .int .i64 hi.n, .string hi.s, .int .i64 lim] 35 := J6
    have I6 := K26.out.set_other (a := ⟨w.heap.size, 3, none⟩) (by show w.heap.size + 1 ≠ w.heap.size; omega) (.slice A6 (min (nc : Int) 4).toNat c6)
    have P6 := hide (NewS.set N6.out (p := ⟨w.heap.size, 3, none⟩) (by show w.heap.size < _; omega) (.slice A6 (min (nc : Int) 4).toNat c6))
    have z6 := HB6.out.size
    have B6 := hide ((B5.out.trans HB6.out).setCell (p := ⟨w.heap.size, 3, none⟩) (Nat.le_refl _) (.slice A6 (min (nc : Int) 4).toNat c6))
    have P5 := hide (NewS.set (P5.out.grown G6.out) (p := ⟨w.heap.size, 3, none⟩) (by show w.heap.size < _; omega) (.slice A6 (min (nc : Int) 4).toNat c6))
    generalize hV6 : w6.setCell ⟨w.heap.size, 3, none⟩ (.slice A6 (min (nc : Int) 4).toNat c6) = V6 at *
    as_aux_lemma =>
      have HK1 := hide J6
      have HK2 := hide I6
      have HX4 := hide (HX4.out.below B6.out)
      have m4 := J6.c 4 (v := .slice XA nx xc) rfl
      have hz6 : V5.heap.size ≤ V6.heap.size := by rw [← hV6]; simpa [World.setCell] using z6
      clear m3 q6 f6 J6 I6 K16 K26 L6 N6 HB6 G6
      go_upto_region 7 with (first
        | (at_builtin; refine wp_app (base := w.heap.size) (n := 0) (xs := []) ixT rfl rfl (World.ownsRow_nil _ _ _ _) rfl HX4.out rfl (ix_one _) (by omega) (by omega) (by omega) ?_; intro A7 c7 w7 hown7 hb7 hg7 hat7; have N7 := hide (new_of (B0 := B0) hown7 (by decide) (by decide) hat7); have L7 := hide (own_form hown7); have K17 := HK1.out.far hg7 (by simp [Value.ownBlock]); have K27 := hide (HK2.out.far hg7 (by simp [Value.ownBlock])); have G7 := hide hg7; have q7 := K17.c 4 (v := .slice XA nx xc) rfl; have f7 := K17.fr 4; have K17 := hide K17; have HB7 := hide hb7; clear hown7 hb7 hat7 hg7)
        | fail)
      rw [Nat.zero_add] at N7 L7
      have hL7 : (min (nx : Int) 4).toNat ≤ c7 := by
        obtain ⟨A', c', he, hle, _⟩ := L7.out
        injection he with _ _ he
        omega
      have J7 := K17.out.set 4 (.slice A7 (min (nx : Int) 4).toNat c7)
      have J7 : Blk _ w.heap.size #[.int .i64 k, .string tb, .string nm, .slice A6 (min (nc : Int) 4).toNat c6, .slice A7 (min (nx : Int) 4).toNat c7, .slice A5 (min (nr : Int) 4).toNat c5, .int .i64 K.k, .int .i64 K.n, .string K.s, .int .i64 c, .int .i64 lo.k, .int .i64 lo.n, .string lo.s, .int .i64 hi.k, .int .i64 hi.n, .string hi.s, .int .i64 lim] 35 := J7
      have I7 := K27.out.set_other (a := ⟨w.heap.size, 4, none⟩) (by show w.heap.size + 1 ≠ w.heap.size; omega) (.slice A7 (min (nx : Int) 4).toNat c7)
      have P7 := hide (NewS.set N7.out (p := ⟨w.heap.size, 4, none⟩) (by show w.heap.size < _; omega) (.slice A7 (min (nx : Int) 4).toNat c7))
      have z7 := HB7.out.size
      have B7 := hide ((B6.out.trans HB7.out).setCell (p := ⟨w.heap.size, 4, none⟩) (Nat.le_refl _) (.slice A7 (min (nx : Int) 4).toNat c7))
      have P5 := hide (NewS.set (P5.out.grown G7.out) (p := ⟨w.heap.size, 4, none⟩) (by show w.heap.size < _; omega) (.slice A7 (min (nx : Int) 4).toNat c7))
      have P6 := hide (NewS.set (P6.out.grown G7.out) (p := ⟨w.heap.size, 4, none⟩) (by show w.heap.size < _; omega) (.slice A7 (min (nx : Int) 4).toNat c7))
      generalize hV7 : w7.setCell ⟨w.heap.size, 4, none⟩ (.slice A7 (min (nx : Int) 4).toNat c7) = V7 at *
      have HK1 := hide J7
      have HK2 := hide I7
      clear m4 q7 f7 J7 I7 K17 K27 L7 N7 HB7 G7
      as_aux_lemma =>
        clear hV5 hV6 hV7 hW0
        have hB := Below.setRow B7.out (Nat.le_succ _) #[.int .i64 k, .string tb, .string nm, .slice A6 (min (nc : Int) 4).toNat c6, .slice A7 (min (nx : Int) 4).toNat c7, .slice A5 (min (nr : Int) 4).toNat c5, .int .i64 K.k, .int .i64 K.n, .string K.s, .int .i64 c, .int .i64 lo.k, .int .i64 lo.n, .string lo.s, .int .i64 hi.k, .int .i64 hi.n, .string hi.s, .int .i64 lim]
        have hK := HK2.out.setRow #[.int .i64 k, .string tb, .string nm, .slice A6 (min (nc : Int) 4).toNat c6, .slice A7 (min (nx : Int) 4).toNat c7, .slice A5 (min (nr : Int) 4).toNat c5, .int .i64 K.k, .int .i64 K.n, .string K.s, .int .i64 c, .int .i64 lo.k, .int .i64 lo.n, .string lo.s, .int .i64 hi.k, .int .i64 hi.n, .string hi.s, .int .i64 lim]
        have hP5 := NewS.row P5.out hw1 #[.int .i64 k, .string tb, .string nm, .slice A6 (min (nc : Int) 4).toNat c6, .slice A7 (min (nx : Int) 4).toNat c7, .slice A5 (min (nr : Int) 4).toNat c5, .int .i64 K.k, .int .i64 K.n, .string K.s, .int .i64 c, .int .i64 lo.k, .int .i64 lo.n, .string lo.s, .int .i64 hi.k, .int .i64 hi.n, .string hi.s, .int .i64 lim]
        have hP6 := NewS.row P6.out (show w.heap.size + 1 < V5.heap.size by omega) #[.int .i64 k, .string tb, .string nm, .slice A6 (min (nc : Int) 4).toNat c6, .slice A7 (min (nx : Int) 4).toNat c7, .slice A5 (min (nr : Int) 4).toNat c5, .int .i64 K.k, .int .i64 K.n, .string K.s, .int .i64 c, .int .i64 lo.k, .int .i64 lo.n, .string lo.s, .int .i64 hi.k, .int .i64 hi.n, .string hi.s, .int .i64 lim]
        have hP7 := NewS.row P7.out (show w.heap.size + 1 < V6.heap.size by omega) #[.int .i64 k, .string tb, .string nm, .slice A6 (min (nc : Int) 4).toNat c6, .slice A7 (min (nx : Int) 4).toNat c7, .slice A5 (min (nr : Int) 4).toNat c5, .int .i64 K.k, .int .i64 K.n, .string K.s, .int .i64 c, .int .i64 lo.k, .int .i64 lo.n, .string lo.s, .int .i64 hi.k, .int .i64 hi.n, .string hi.s, .int .i64 lim]
        have d0 := hK.c 0 (v := .int .i64 k) rfl
        have d1 := hK.c 1 (v := .string tb) rfl
        have d2 := hK.c 2 (v := .string nm) rfl
        have d3 := hK.c 3 (v := .slice A6 (min (nc : Int) 4).toNat c6) rfl
        have d4 := hK.c 4 (v := .slice A7 (min (nx : Int) 4).toNat c7) rfl
        have d5 := hK.c 5 (v := .slice A5 (min (nr : Int) 4).toNat c5) rfl
        have d6 := hK.c 6 (v := .int .i64 K.k) rfl
        have d7 := hK.c 7 (v := .int .i64 K.n) rfl
        have d8 := hK.c 8 (v := .string K.s) rfl
        have d9 := hK.c 9 (v := .int .i64 c) rfl
        have d10 := hK.c 10 (v := .int .i64 lo.k) rfl
        have d11 := hK.c 11 (v := .int .i64 lo.n) rfl
        have d12 := hK.c 12 (v := .string lo.s) rfl
        have d13 := hK.c 13 (v := .int .i64 hi.k) rfl
        have d14 := hK.c 14 (v := .int .i64 hi.n) rfl
        have d15 := hK.c 15 (v := .string hi.s) rfl
        have d16 := hK.c 16 (v := .int .i64 lim) rfl
        have HB := hide hB
        have HP5 := hide hP5
        have HP6 := hide hP6
        have HP7 := hide hP7
        clear hB hK hP5 hP6 hP7 B5 B6 B7 P5 P6 P7 HR4 HC4 HX4
        refine wp_region_lit (l := [_, _]) ?_
        refine wpList_plain rfl fun _ hK => oper_load_row rfl rfl HK1.out Tryz.underlying35 rfl (by kernel_rfl) (hK _ _ ?_)
        refine wpList_plain rfl fun _ hK => oper_store_row rfl rfl rfl HK2.out (by kernel_rfl) rfl (by simp [Value.oneCell']) (hK _ _ ?_)
        refine wpList_nil ?_
        clear HK1 HK2
        go_simp
        go_wp2_with fail
        refine bodyPost_ret (v := .agg #[.int .i64 k, .string tb, .string nm, .slice A6 (min (nc : Int) 4).toNat c6, .slice A7 (min (nx : Int) 4).toNat c7, .slice A5 (min (nr : Int) 4).toNat c5, .int .i64 K.k, .int .i64 K.n, .string K.s, .int .i64 c, .int .i64 lo.k, .int .i64 lo.n, .string lo.s, .int .i64 hi.k, .int .i64 hi.n, .string hi.s, .int .i64 lim]) (by simp [results, Tryz.results16, go_sem, d0, d1, d2, d3, d4, d5, d6, d7, d8, d9, d10, d11, d12, d13, d14, d15, d16]) rfl ?_
        have en : (min (nr : Int) 4).toNat = (row.take 4).length := by rw [List.length_take, Hnr.out]; omega
        have ec : (min (nc : Int) 4).toNat = (cols.take 4).length := by rw [List.length_take, Hnc.out]; omega
        have ex : (min (nx : Int) 4).toNat = (ixs.take 4).length := by rw [List.length_take, Hnx.out]; omega
        refine ⟨[.int .i64 k, .string tb, .string nm, .slice A6 (min (nc : Int) 4).toNat c6, .slice A7 (min (nx : Int) 4).toNat c7, .slice A5 (min (nr : Int) 4).toNat c5, .int .i64 K.k, .int .i64 K.n, .string K.s, .int .i64 c, .int .i64 lo.k, .int .i64 lo.n, .string lo.s, .int .i64 hi.k, .int .i64 hi.n, .string hi.s, .int .i64 lim], rfl, ⟨A6, c6, A7, c7, A5, c5, ?_, ?_, ?_, ?_, ?_, ?_, ?_⟩, HB.out⟩
        · simp only [cut4, ← en, ← ec, ← ex]
        · show (cols.take 4).length ≤ c6; omega
        · show (ixs.take 4).length ≤ c7; omega
        · show (row.take 4).length ≤ c5; omega
        · show NewS B0 _ _ 3 A6 (cols.take 4).length ((cols.take 4).flatMap Col.cells)
          rw [← ec]; exact ⟨HP6.out.1, fun b o h => Nat.le_trans (by omega) (HP6.out.2 b o h)⟩
        · show NewS B0 _ _ 2 A7 (ixs.take 4).length ((ixs.take 4).flatMap Ix.cells)
          rw [← ex]; exact ⟨HP7.out.1, fun b o h => Nat.le_trans (by omega) (HP7.out.2 b o h)⟩
        · show NewS B0 _ _ 3 A5 (row.take 4).length ((row.take 4).flatMap V.cells)
          rw [← en]; exact ⟨HP5.out.1, fun b o h => Nat.le_trans (by omega) (HP5.out.2 b o h)⟩
end Go.Proofs.YtekokogmnhlchaaGreatDoor
namespace Go.Proofs.YtekokogmnhlchaaGreatDoor
open Go.RowKit
theorem Safe.up {B0 B1 : Nat} {w : World} {b : Nat} (h : Safe B0 w b) (hB : B0 ≤ B1) : Safe B1 w b := h.imp (fun h => by omega) id
theorem RdS.up {B0 B1 : Nat} {w : World} {k n : Nat} {A : Option Addr} {xs : List Value} (h : RdS B0 w k A n xs) (hB : B0 ≤ B1) : RdS B1 w k A n xs :=
  ⟨h.1, h.2.imp id fun ⟨b, o, h1, h2, h3⟩ => ⟨b, o, h1, h2, h3.up hB⟩⟩
theorem OpAt.up {B0 B1 : Nat} {w : World} {o : OpV} {cs : List Value} (h : OpAt B0 w o cs) (hB : B0 ≤ B1) : OpAt B1 w o cs := by
  obtain ⟨CA, cc, XA, xc, RA, rc, e, h1, h2, h3, h4, h5, h6⟩ := h
  exact ⟨CA, cc, XA, xc, RA, rc, e, h1, h2, h3, h4.up hB, h5.up hB, h6.up hB⟩
theorem OpsAt.up {B0 B1 : Nat} {w : World} {l : List OpV} {A : Option Addr} {m : Nat} (h : OpsAt B0 w A m l) (hB : B0 ≤ B1) : OpsAt B1 w A m l := by
  obtain ⟨hl, xs, hr, hE⟩ := h
  exact ⟨hl, xs, hr.up hB, hE.mono fun o cs _ ho => ho.up hB⟩
theorem insD_ne {D : List Tb} {nm : ByteArray} {row : List V} (h : insE D nm row ≠ 0) : insD D nm row = D := by rw [insD, if_neg h]
theorem updD_ne {D : List Tb} {nm : ByteArray} {row : List V} (h : updE D nm row ≠ 0) : updD D nm row = D := by rw [updD, if_neg h]
theorem col_head {r : List V} (hp : 0 < r.length) : r[0] = col r 0 := by
  rw [col, List.getD_eq_getElem?_getD, List.getElem?_eq_getElem hp]; rfl
set_option maxHeartbeats 6400000 in
set_option maxRecDepth 1000000 in
theorem back_ok (A : Option Addr) (m c : Nat) (l : List OpV) (o : OpV) (cs : Array Value) (w : World) (ho : OpsAt w.heap.size w A m l) (hf : FitL l) (hop : OpAt w.heap.size w o cs.toList) (hof : o.fit 1048576) (hm : m ≤ 1000000000) (hT : Tabs w) :
    Calls Tryz.prog 6 #[.slice A m c, .agg cs] w fun e w' => e = .returned (.bool true) ∧ Below w.heap.size w w' := by
  obtain ⟨CA, cc, XA, xc, RA, rc, hcs, k1, k2, k3, k4, k5, k6⟩ := hop
  have hcs2 : cs = #[.int .i64 o.k, .string o.tb, .string o.s.name, .slice CA o.s.cols.length cc, .slice XA o.s.ixs.length xc, .slice RA o.row.length rc, .int .i64 o.key.k, .int .i64 o.key.n, .string o.key.s, .int .i64 o.c, .int .i64 o.lo.k, .int .i64 o.lo.n, .string o.lo.s, .int .i64 o.hi.k, .int .i64 o.hi.n, .string o.hi.s, .int .i64 o.lim] := Array.toList_inj.1 hcs
  subst hcs2
  have hopl : OpAt w.heap.size w o [.int .i64 o.k, .string o.tb, .string o.s.name, .slice CA o.s.cols.length cc, .slice XA o.s.ixs.length xc, .slice RA o.row.length rc, .int .i64 o.key.k, .int .i64 o.key.n, .string o.key.s, .int .i64 o.c, .int .i64 o.lo.k, .int .i64 o.lo.n, .string o.lo.s, .int .i64 o.hi.k, .int .i64 o.hi.n, .string o.hi.s, .int .i64 o.lim] := ⟨CA, cc, XA, xc, RA, rc, rfl, k1, k2, k3, k4, k5, k6⟩
  have hal := (Below.refl w.heap.size w).alloc (Nat.le_refl _) (.cells #[.int .i64 o.k, .string o.tb, .string o.s.name, .slice CA o.s.cols.length cc, .slice XA o.s.ixs.length xc, .slice RA o.row.length rc, .int .i64 o.key.k, .int .i64 o.key.n, .string o.key.s, .int .i64 o.c, .int .i64 o.lo.k, .int .i64 o.lo.n, .string o.lo.s, .int .i64 o.hi.k, .int .i64 o.hi.n, .string o.hi.s, .int .i64 o.lim] 35)
  have hnb := Blk.new w #[.int .i64 o.k, .string o.tb, .string o.s.name, .slice CA o.s.cols.length cc, .slice XA o.s.ixs.length xc, .slice RA o.row.length rc, .int .i64 o.key.k, .int .i64 o.key.n, .string o.key.s, .int .i64 o.c, .int .i64 o.lo.k, .int .i64 o.lo.n, .string o.lo.s, .int .i64 o.hi.k, .int .i64 o.hi.n, .string o.hi.s, .int .i64 o.lim] 35
  have hofc := cut4_fit hof
  obtain ⟨pb, hpb⟩ : ∃ pb, w.heap.size = pb := ⟨_, rfl⟩
  have h3 : 3 ≤ pb := hpb ▸ hT.three
  have HT := hide hT
  have Ho := hide ho
  have Hf := hide hf
  have Hopl := hide hopl
  have Hofc := hide hofc
  clear hT ho hf hopl hofc k1 k2 k3 k4 k5 k6 hcs hof
  go_enter Tryz.func6, Tryz.ntmps6
  go_wp2_with fail
  refine (lnew_ok _).mono ?_
  rintro e w1 ⟨db, sb, rfl, hd, hb⟩
  obtain ⟨W1, hW1⟩ : ∃ W1, w.alloc (.cells #[.int .i64 o.k, .string o.tb, .string o.s.name, .slice CA o.s.cols.length cc, .slice XA o.s.ixs.length xc, .slice RA o.row.length rc, .int .i64 o.key.k, .int .i64 o.key.n, .string o.key.s, .int .i64 o.c, .int .i64 o.lo.k, .int .i64 o.lo.n, .string o.lo.s, .int .i64 o.hi.k, .int .i64 o.hi.n, .string o.hi.s, .int .i64 o.lim] 35) = W1 := ⟨_, rfl⟩
  rw [hW1] at hal hnb hd hb
  have S1 := hide (St.new hd hb (HT.out.below hal) (Nat.le_trans HT.out.three hal.size))
  have Hal := hide hal
  have hz1 : pb < W1.heap.size := hpb ▸ hnb.lt
  have Hnb1 := hide (hnb.below hb)
  have O1 := hide (((Ho.out.below hal).below hb).up (Nat.le_of_lt hz1 |> fun h => hpb ▸ h))
  have P1 := hide (((Hopl.out.below hal).below hb).up (Nat.le_of_lt hz1 |> fun h => hpb ▸ h))
  rw [hpb] at Hnb1
  clear hd hb hal hnb Ho Hopl hW1
  have hrun := run_any S1.out A m c l 20 O1.out Hf.out (by omega) (by omega) hm
  have Hrun := hide hrun
  clear hrun
  go_wp2_with fail
  refine Hrun.out.mono ?_
  rintro e w2 ⟨rfl, hs2, hu2⟩
  obtain ⟨D, hD⟩ : ∃ D, runD [] (l.take 20) = D := ⟨_, rfl⟩
  have huq : UqD D := hD ▸ UqD.run _ UqD.nil
  rw [hD] at hs2
  have S2 := hide hs2
  have P2 := hide (P1.out.upd S1.out hu2)
  have N2 := hide (S1.out.blk Hnb1.out (by decide) (by decide) hu2)
  have Huq := hide huq
  have Hopc := hide (op_new W1.heap.size o _ w2 P2.out)
  clear hs2 hu2 hD Hrun S1 Hnb1 O1 P1 huq
  go_upto_region 5 with (fail)
  refine wp_region_lit (l := [_, _, _]) ?_
  refine wpList_plain rfl fun _ hK => oper_load_row rfl rfl N2.out Tryz.underlying35 rfl (by kernel_rfl) (hK _ _ ?_)
  refine wpList_plain rfl fun _ hK => oper_call (f := 16) (args := [.tmp 25]) rfl rfl (by simp [go_sem]) Hopc.out ?_
  rintro e w3 ⟨cs', rfl, hop3, hb3⟩
  refine ⟨_, rfl, hK _ _ ?_⟩
  clear hK
  go_simp
  obtain ⟨o', ho'⟩ : ∃ o', cut4 o = o' := ⟨_, rfl⟩
  rw [ho'] at hop3 Hofc
  obtain ⟨kk, tt, ss, rr, ky, cq, lo, hi, lim⟩ := o'
  obtain ⟨CA', cc', XA', xc', RA', rc', rfl, k1, k2, k3, k4, k5, k6⟩ := hop3
  dsimp only at k1 k2 k3 k4 k5 k6 ⊢
  have N3 := N2.out.below hb3
  have hpz : pb < w2.heap.size := N2.out.lt
  refine wpList_plain rfl fun _ hK => oper_store_row (b := pb) (old := #[.int .i64 o.k, .string o.tb, .string o.s.name, .slice CA o.s.cols.length cc, .slice XA o.s.ixs.length xc, .slice RA o.row.length rc, .int .i64 o.key.k, .int .i64 o.key.n, .string o.key.s, .int .i64 o.c, .int .i64 o.lo.k, .int .i64 o.lo.n, .string o.lo.s, .int .i64 o.hi.k, .int .i64 o.hi.n, .string o.hi.s, .int .i64 o.lim]) (cs := #[.int .i64 kk, .string tt, .string ss.name, .slice CA' ss.cols.length cc', .slice XA' ss.ixs.length xc', .slice RA' rr.length rc', .int .i64 ky.k, .int .i64 ky.n, .string ky.s, .int .i64 cq, .int .i64 lo.k, .int .i64 lo.n, .string lo.s, .int .i64 hi.k, .int .i64 hi.n, .string hi.s, .int .i64 lim]) (t := 35) rfl rfl rfl N3 (by kernel_rfl) rfl (by simp [Value.oneCell']) (hK _ _ ?_)
  refine wpList_nil ?_
  have hall : ∀ v ∈ (#[.int .i64 o.k, .string o.tb, .string o.s.name, .slice CA o.s.cols.length cc, .slice XA o.s.ixs.length xc, .slice RA o.row.length rc, .int .i64 o.key.k, .int .i64 o.key.n, .string o.key.s, .int .i64 o.c, .int .i64 o.lo.k, .int .i64 o.lo.n, .string o.lo.s, .int .i64 o.hi.k, .int .i64 o.hi.n, .string o.hi.s, .int .i64 o.lim] : Array Value).toList, Dull v := by simp [Dull]
  have S4 := hide ((S2.out.below hb3).off N3 hall (by decide) (by decide) (Aside.setRow w3 pb #[.int .i64 kk, .string tt, .string ss.name, .slice CA' ss.cols.length cc', .slice XA' ss.ixs.length xc', .slice RA' rr.length rc', .int .i64 ky.k, .int .i64 ky.n, .string ky.s, .int .i64 cq, .int .i64 lo.k, .int .i64 lo.n, .string lo.s, .int .i64 hi.k, .int .i64 hi.n, .string hi.s, .int .i64 lim]) h3)
  have K4 := hide (N3.setRow #[.int .i64 kk, .string tt, .string ss.name, .slice CA' ss.cols.length cc', .slice XA' ss.ixs.length xc', .slice RA' rr.length rc', .int .i64 ky.k, .int .i64 ky.n, .string ky.s, .int .i64 cq, .int .i64 lo.k, .int .i64 lo.n, .string lo.s, .int .i64 hi.k, .int .i64 hi.n, .string hi.s, .int .i64 lim])
  have R4 := hide (k6.row hpz #[.int .i64 kk, .string tt, .string ss.name, .slice CA' ss.cols.length cc', .slice XA' ss.ixs.length xc', .slice RA' rr.length rc', .int .i64 ky.k, .int .i64 ky.n, .string ky.s, .int .i64 cq, .int .i64 lo.k, .int .i64 lo.n, .string lo.s, .int .i64 hi.k, .int .i64 hi.n, .string hi.s, .int .i64 lim]).1
  have B4 := hide (Below.setRow (B := pb) (b := pb) (hpb ▸ below_chain (below_chain Hal.out S2.out.b) hb3 : Below pb w w3) (Nat.le_refl _) #[.int .i64 kk, .string tt, .string ss.name, .slice CA' ss.cols.length cc', .slice XA' ss.ixs.length xc', .slice RA' rr.length rc', .int .i64 ky.k, .int .i64 ky.n, .string ky.s, .int .i64 cq, .int .i64 lo.k, .int .i64 lo.n, .string lo.s, .int .i64 hi.k, .int .i64 hi.n, .string hi.s, .int .i64 lim])
  obtain ⟨W4, hW4⟩ : ∃ W4, w3.setRow pb #[.int .i64 kk, .string tt, .string ss.name, .slice CA' ss.cols.length cc', .slice XA' ss.ixs.length xc', .slice RA' rr.length rc', .int .i64 ky.k, .int .i64 ky.n, .string ky.s, .int .i64 cq, .int .i64 lo.k, .int .i64 lo.n, .string lo.s, .int .i64 hi.k, .int .i64 hi.n, .string hi.s, .int .i64 lim] = W4 := ⟨_, rfl⟩
  rw [hW4] at S4 K4 R4 B4 ⊢
  clear hall N3 N2 S2 P2 hb3 k1 k2 k4 k5 k6 Hopc hW4 ho' hpz Hal
  obtain ⟨B0, hB0'⟩ : ∃ B0, W1.heap.size = B0 := ⟨_, rfl⟩
  rw [hB0'] at S4 R4 hz1
  have B4w : Hid (Below w.heap.size w W4) := hide (by rw [hpb]; exact B4.out)
  have hpB : w.heap.size ≤ B0 := by omega
  go_simp
  have hnm := S4.out.names (by omega)
  have Hnm := hide hnm
  clear hnm
  go_wp2_with fail
  refine Hnm.out.mono ?_
  rintro e w5 ⟨ns, A5, c5, hns, rfl, hown5, hb5⟩
  have S5 := hide (S4.out.below hb5)
  have K5 := hide (K4.out.below hb5)
  have R5 := hide (R4.out.below hb5)
  have Hns := hide hns
  obtain ⟨dn, hdn⟩ : ∃ dn, D.length = dn := ⟨_, rfl⟩
  rw [hdn] at hown5 ⊢
  have Hown5 := hide hown5
  have hd4 : dn ≤ 4 := by have := S5.out.ok.n4; omega
  have Hdn := hide hdn
  have d5 := K5.out.c 5 (v := .slice RA' rr.length rc') rfl
  obtain ⟨rl, hrl⟩ : ∃ rl, rr.length = rl := ⟨_, rfl⟩
  rw [hrl] at d5
  have hl4 : rl ≤ 1048576 := by have := Hofc.out.row.2; simp only at this; omega
  have Hrl := hide hrl
  have B5 := hide (by have h1 := below_then B4.out (Nat.le_of_lt K4.out.lt) hb5; rw [← hpb] at h1; exact h1 : Below w.heap.size w w5)
  clear hdn hown5 hb5 hns Hnm S4 K4 R4 hrl
  by_cases h0 : dn = 0
  · have h0b : ((dn : Int) == 0) = true := by simp; omega
    have H0 := hide h0
    clear h0
    have hto := told_ok w5 (HT.out.below B5.out) (by have h1 := HT.out.three; have h2 := B5.out.size; omega)
    have Hto := hide hto
    clear hto S5 K5 R5 Hown5 Hns Hf
    go_wp2_with fail
    refine Hto.out.mono ?_
    rintro e w9 ⟨rfl, hb9⟩
    go_wp2_with fail
    go_ret
    exact ⟨rfl, below_then B5.out B5.out.size hb9⟩
  · have h0b : ((dn : Int) == 0) = false := by simp; omega
    by_cases hr0 : rl = 0
    · have h1b : ((rl : Int) == 0) = true := by simp; omega
      have H0 := hide hr0
      clear hr0
      have hto := told_ok w5 (HT.out.below B5.out) (by have h1 := HT.out.three; have h2 := B5.out.size; omega)
      have Hto := hide hto
      clear hto S5 K5 R5 Hown5 Hns Hf
      go_wp2_with fail
      refine Hto.out.mono ?_
      rintro e w9 ⟨rfl, hb9⟩
      go_wp2_with fail
      go_ret
      exact ⟨rfl, below_then B5.out B5.out.size hb9⟩
    · have h1b : ((rl : Int) == 0) = false := by simp; omega
      obtain ⟨nm, i, T, hn0, hf0, hnms⟩ := names_zero Hns.out S5.out.ok (by have := Hdn.out; omega)
      have hT := (findT_at hf0).1
      obtain ⟨R, hR⟩ := walk_exists S5.out.ok hT
      have hw := walk_ok S5.out (by omega) hnms hf0 hR
      have hsm := walk_small S5.out.ok hT hR
      obtain ⟨g3, rfl, _, _⟩ := own_ptr Hown5.out (by omega)
      have n0 : C w5 g3 0 (.string nm) := (Hown5.out.cellAt 0 (by omega)).trans (by rw [strs, List.getElem?_map, hn0]; rfl)
      obtain ⟨rn, hrn⟩ : ∃ rn, R.length = rn := ⟨_, rfl⟩
      rw [hrn] at hw
      have hrnl : rn ≤ 100000000 := by rw [← hrn, hR.len S5.out.ok hT]; have := S5.out.ok.n64 i T hT; omega
      have hdi : (0 : Int) < (dn : Int) := by omega
      have hri : (0 : Int) < (rl : Int) := by omega
      have hrp : 0 < rr.length := by have := Hrl.out; omega
      have Hok := hide S5.out.ok
      have Hw := hide hw
      have HR := hide hR
      have Hsm := hide hsm
      have Hf0 := hide hf0
      have Hrn := hide hrn
      have HTi := hide hT
      have Hrp := hide hrp
      clear hw hR hsm hf0 hn0 h0 hrn hT hr0 hrp Hns Hown5
      go_wp2_with fail
      refine Hw.out.mono ?_
      rintro e w7 ⟨A7, c7, rfl, hout7, hb7⟩
      have S7 := hide (S5.out.below hb7)
      have K7 := hide (K5.out.below hb7)
      have R7 := hide (R5.out.below hb7)
      have Q7 := hide hout7
      have B7 := hide (below_then B5.out B5.out.size hb7)
      have e5 := K7.out.c 5 (v := .slice RA' rr.length rc') rfl
      rw [Hrl.out] at e5
      have hv := Hofc.out.row.1 (col rr 0) (col_in Hrp.out)
      have hget := S7.out.get nm (col rr 0) hv.2.1 (by have := hv.2.2; omega) hnms
      obtain ⟨b9, o9, rfl, z0, z1, z2⟩ := Row.cells (A := RA') (l := rr) R7.out.rd 0 Hrp.out
      rw [col_head Hrp.out, Nat.zero_mul, Nat.add_zero] at z0 z1 z2
      obtain ⟨v0, hv0⟩ : ∃ v, col rr 0 = v := ⟨_, rfl⟩
      rw [hv0] at z0 z1 z2 hget hv
      obtain ⟨k7, hk7, hk7n⟩ := S7.out.mkk
      have hgm : ∀ w' e, (GetOp w7.heap.size D nm v0 w' e ∧ Below w7.heap.size w7 w') → ((HeldE T v0 = 0 → ∃ r A c, wasT T v0 = some r ∧ e = .returned (.tuple #[.slice A r.length c, .int .i64 0]) ∧ w'.ownsRow w7.heap.size 28 3 (.slice A r.length c) r.length (rowCells r)) ∧ (HeldE T v0 ≠ 0 → e = .returned (.tuple #[.slice none 0 0, .int .i64 (HeldE T v0)]))) ∧ Below w7.heap.size w7 w' := fun w' e h => by
        refine ⟨?_, h.2⟩
        have h1 := h.1
        rw [GetOp, Hf0.out] at h1
        simp only [HeldP] at h1
        exact ⟨fun h0 => by rw [if_pos h0] at h1; exact h1, fun h0 => by rw [if_neg h0] at h1; exact h1⟩
      have hget2 : Calls Tryz.prog 27 #[.pointer (some ⟨db, 0, none⟩), .string nm, .agg #[.int .i64 v0.k, .int .i64 v0.n, .string v0.s]] w7 _ := hget.mono fun e w' h => hgm w' e h
      have Hget := hide hget2
      have Hk7 := hide hk7
      have Hv := hide hv
      have Hv0 := hide hv0
      clear hget hget2 hgm hk7 hv hv0 S5 K5 R5 hout7 hb7 Hw n0
      go_wp2_with fail
      refine Hget.out.mono ?_
      rintro e w8 ⟨⟨hg1, hg2⟩, hb8⟩
      have S8 := hide (S7.out.below hb8)
      have K8 := hide (K7.out.below hb8)
      have R8 := hide (R7.out.below hb8)
      have Q8 := hide (Q7.out.below hb8)
      have B8 := hide (below_then B7.out B7.out.size hb8)
      have hk8 := Hk7.out.below hb8
      have hmark := St.markM hk8
      have Hk8 := hide hk8
      have Hmark := hide hmark
      have f5 := K8.out.c 5 (v := .slice (some ⟨b9, o9, none⟩) rr.length rc') rfl
      rw [Hrl.out] at f5
      have Hg1 := hide hg1
      have Hg2 := hide hg2
      clear hg1 hg2 hb8 hk8 hmark S7 K7 R7 Q7 B7 e5 z0 z1 z2 Hget Hk7
      by_cases hE : HeldE T v0 = 0
      · obtain ⟨old, A12, c12, hwas, rfl, hown12⟩ := Hg1.out hE
        clear Hg1 Hg2 hE
        have hcon : Calls Tryz.prog 29 #[.pointer (some ⟨db, 0, none⟩), .string nm, .slice (some ⟨b9, o9, none⟩) rl rc'] w8 _ := S8.out.updM (nm := nm) (row := rr) (A := some ⟨b9, o9, none⟩) (m := rl) (c := rc') (by omega) hnms (by have := R8.out; rw [Hrl.out] at this; exact this) Hrl.out (fun v hv => (Hofc.out.row.1 v hv).2.1) (fun v hv => Nat.le_trans (Hofc.out.row.1 v hv).2.2 (by omega))
        have Hcon := hide hcon
        clear hcon
        go_wp2_with fail
        refine Hmark.out.mono ?_
        rintro e w9 ⟨rfl, rfl⟩
        go_wp2_with fail
        refine Hcon.out.mono ?_
        rintro e w10 ⟨rfl, hs10, hu10, hm10⟩
        have S10 := hide hs10
        have Q10 := hide (Q8.out.upd S8.out hu10)
        have B10 := hide (hs10.b)
        have K10 := hide (S8.out.blk K8.out (by decide) (by decide) hu10)
        have R10 := hide (S8.out.rds R8.out hu10)
        have hmk := fun h => hm10 h k7 Hk8.out
        have Hown12 := hide (own_upd S8.out hown12 (by decide) (by decide) hu10)
        clear hown12
        clear hs10 hu10 hm10 Hcon Hmark S8 Q8 B8 K8 R8 f5 Hk8
        by_cases hz : updE D nm rr = 0
        · obtain ⟨hE2, T9, hf9, hm9⟩ := back_upd Hok.out Huq.out Hf0.out (by rw [Hv0.out]; exact hwas) hz
          have hold := wasT_some hwas
          have hofit := Hok.out.fit i T HTi.out old hold.1
          have hov := hofit.ok (Hok.out.right i T HTi.out)
          have hcon2 : Calls Tryz.prog 29 #[.pointer (some ⟨db, 0, none⟩), .string nm, .slice A12 old.length c12] w10 _ := S10.out.upd (nm := nm) (row := old) (A := A12) (m := old.length) (c := c12) (by omega) hnms (RdS.of_own Hown12.out (by decide) (by decide)) rfl (fun v hv => (hov v hv).2.1) (fun v hv => Nat.le_trans (hov v hv).2.2 (by omega))
          rw [hE2] at hcon2
          have Hcon2 := hide hcon2
          have HF := hide hf9
          have HM := hide hm9
          rw [hz]
          clear hcon2 hE2 hf9 hm9 hold hofit hov hmk hz K10 R10 B10 hwas
          go_wp2_with fail
          refine Hcon2.out.mono ?_
          rintro e w12 ⟨rfl, hs12, hu12⟩
          have B9 := hide (B4w.out.trans (hs12.b.mono hpB) : Below w.heap.size w w12)
          have S9 := hide hs12
          have Q9 := hide (Q10.out.upd S10.out hu12)
          have HF9 := HF
          have HR9 := hide (⟨HR.out.srt, fun r => (HR.out.mem r).trans (HM.out r).symm⟩ : WalkL T9 i R)
          clear hs12 hu12 S10 Q10 Hcon2 HF HM Hown12
          have hw := walk_ok S9.out (by omega) hnms HF9.out HR9.out
          rw [Hrn.out] at hw
          have Hw := hide hw
          clear hw
          go_wp2_with fail
          refine Hw.out.mono ?_
          rintro e w16 ⟨A16, c16, rfl, hout16, hb16⟩
          have B16 := hide (below_then B9.out B9.out.size hb16)
          have Q16 := hide (Q9.out.below hb16)
          have Q16' := hide hout16
          have hto := told_ok w16 (HT.out.below B16.out) (Nat.le_trans HT.out.three B16.out.size)
          have Hto := hide hto
          clear hto hout16 hb16 Hw S9 B9 Q9
          go_wp2_with fail
          refine Hto.out.mono ?_
          rintro e w17 ⟨rfl, hb17⟩
          have hsr := samerows_any A7 A16 rn c7 rn c16 R R w17 ((Q16.out.below hb17).read Hsm.out) ((Q16'.out.below hb17).read Hsm.out) hrnl
          rw [show decide (R = R) = true by simp] at hsr
          have Hsr := hide hsr
          have B17 := hide (below_then B16.out B16.out.size hb17)
          clear hsr hb17 Hto Q16 Q16'
          go_wp2_with fail
          refine Hsr.out.mono ?_
          rintro e w18 ⟨rfl, hb18⟩
          go_wp2_with fail
          go_ret
          exact ⟨rfl, below_then B17.out B17.out.size hb18⟩
        · have hmark2 := St.markM (hmk hz)
          have Hmark2 := hide hmark2
          have hDD : updD D nm rr = D := updD_ne hz
          rw [hDD] at S10
          obtain ⟨ce, hce⟩ : ∃ ce, updE D nm rr = ce := ⟨_, rfl⟩
          rw [hce] at hz ⊢
          have hzb : (ce != 0) = true := by simpa using hz
          have S9 := S10
          have Q9 := Q10
          have B9 := hide (B4w.out.trans (B10.out.mono hpB) : Below w.heap.size w w10)
          have HF9 := Hf0
          have HR9 := HR
          clear hmark2 hDD hce hmk S10 Q10 B10 K10 R10 hz
          go_wp2_with fail
          refine Hmark2.out.mono ?_
          rintro e w12 ⟨rfl, rfl⟩
          clear Hmark2
          have hw := walk_ok S9.out (by omega) hnms HF9.out HR9.out
          rw [Hrn.out] at hw
          have Hw := hide hw
          clear hw
          go_wp2_with fail
          refine Hw.out.mono ?_
          rintro e w16 ⟨A16, c16, rfl, hout16, hb16⟩
          have B16 := hide (below_then B9.out B9.out.size hb16)
          have Q16 := hide (Q9.out.below hb16)
          have Q16' := hide hout16
          have hto := told_ok w16 (HT.out.below B16.out) (Nat.le_trans HT.out.three B16.out.size)
          have Hto := hide hto
          clear hto hout16 hb16 Hw S9 B9 Q9
          go_wp2_with fail
          refine Hto.out.mono ?_
          rintro e w17 ⟨rfl, hb17⟩
          have hsr := samerows_any A7 A16 rn c7 rn c16 R R w17 ((Q16.out.below hb17).read Hsm.out) ((Q16'.out.below hb17).read Hsm.out) hrnl
          rw [show decide (R = R) = true by simp] at hsr
          have Hsr := hide hsr
          have B17 := hide (below_then B16.out B16.out.size hb17)
          clear hsr hb17 Hto Q16 Q16'
          go_wp2_with fail
          refine Hsr.out.mono ?_
          rintro e w18 ⟨rfl, hb18⟩
          go_wp2_with fail
          go_ret
          exact ⟨rfl, below_then B17.out B17.out.size hb18⟩
      · have he := Hg2.out hE
        subst he
        obtain ⟨fe, hfe⟩ : ∃ fe, HeldE T v0 = fe := ⟨_, rfl⟩
        rw [hfe] at hE ⊢
        have hfb : (fe != 0) = true := by simpa using hE
        clear Hg1 Hg2 hE hfe
        have hcon : Calls Tryz.prog 19 #[.pointer (some ⟨db, 0, none⟩), .string nm, .slice (some ⟨b9, o9, none⟩) rl rc'] w8 _ := S8.out.insM (nm := nm) (row := rr) (A := some ⟨b9, o9, none⟩) (m := rl) (c := rc') (by omega) hnms (by have := R8.out; rw [Hrl.out] at this; exact this) Hrl.out (fun v hv => (Hofc.out.row.1 v hv).2.1) (fun v hv => Nat.le_trans (Hofc.out.row.1 v hv).2.2 (by omega))
        have Hcon := hide hcon
        clear hcon
        go_wp2_with fail
        refine Hmark.out.mono ?_
        rintro e w9 ⟨rfl, rfl⟩
        go_wp2_with fail
        refine Hcon.out.mono ?_
        rintro e w10 ⟨rfl, hs10, hu10, hm10⟩
        have S10 := hide hs10
        have Q10 := hide (Q8.out.upd S8.out hu10)
        have B10 := hide (hs10.b)
        have K10 := hide (S8.out.blk K8.out (by decide) (by decide) hu10)
        have R10 := hide (S8.out.rds R8.out hu10)
        have hmk := fun h => hm10 h k7 Hk8.out
        clear hs10 hu10 hm10 Hcon Hmark S8 Q8 B8 K8 R8 f5 Hk8
        by_cases hz : insE D nm rr = 0
        · obtain ⟨hE2, T9, hf9, hm9⟩ := back_ins Hok.out Hf0.out Hrp.out hz
          have hv := Hv.out
          rw [Hv0.out] at hE2 hf9
          have hcon2 : Calls Tryz.prog 23 #[.pointer (some ⟨db, 0, none⟩), .string nm, .agg #[.int .i64 v0.k, .int .i64 v0.n, .string v0.s]] w10 _ := S10.out.del nm v0 (by omega) hv.2.1 (by have := hv.2.2; omega) hnms
          rw [hE2] at hcon2
          have Hcon2 := hide hcon2
          have HF := hide hf9
          have HM := hide hm9
          have f5 := K10.out.c 5 (v := .slice (some ⟨b9, o9, none⟩) rr.length rc') rfl
          rw [Hrl.out] at f5
          obtain ⟨b9', o9', heq, z0, z1, z2⟩ := Row.cells (A := some ⟨b9, o9, none⟩) (l := rr) R10.out.rd 0 Hrp.out
          injection heq with heq
          injection heq with e1 e2 _
          subst e1 e2
          rw [col_head Hrp.out, Nat.zero_mul, Nat.add_zero, Hv0.out] at z0 z1 z2
          rw [hz]
          clear hcon2 hE2 hf9 hm9 hmk hz K10 R10 B10 hv
          go_wp2_with fail
          refine Hcon2.out.mono ?_
          rintro e w12 ⟨rfl, hs12, hu12⟩
          have B9 := hide (B4w.out.trans (hs12.b.mono hpB) : Below w.heap.size w w12)
          have S9 := hide hs12
          have Q9 := hide (Q10.out.upd S10.out hu12)
          have HF9 := HF
          have HR9 := hide (⟨HR.out.srt, fun r => (HR.out.mem r).trans (HM.out r).symm⟩ : WalkL T9 i R)
          clear hs12 hu12 S10 Q10 Hcon2 HF HM z0 z1 z2 f5
          have hw := walk_ok S9.out (by omega) hnms HF9.out HR9.out
          rw [Hrn.out] at hw
          have Hw := hide hw
          clear hw
          go_wp2_with fail
          refine Hw.out.mono ?_
          rintro e w16 ⟨A16, c16, rfl, hout16, hb16⟩
          have B16 := hide (below_then B9.out B9.out.size hb16)
          have Q16 := hide (Q9.out.below hb16)
          have Q16' := hide hout16
          have hto := told_ok w16 (HT.out.below B16.out) (Nat.le_trans HT.out.three B16.out.size)
          have Hto := hide hto
          clear hto hout16 hb16 Hw S9 B9 Q9
          go_wp2_with fail
          refine Hto.out.mono ?_
          rintro e w17 ⟨rfl, hb17⟩
          have hsr := samerows_any A7 A16 rn c7 rn c16 R R w17 ((Q16.out.below hb17).read Hsm.out) ((Q16'.out.below hb17).read Hsm.out) hrnl
          rw [show decide (R = R) = true by simp] at hsr
          have Hsr := hide hsr
          have B17 := hide (below_then B16.out B16.out.size hb17)
          clear hsr hb17 Hto Q16 Q16'
          go_wp2_with fail
          refine Hsr.out.mono ?_
          rintro e w18 ⟨rfl, hb18⟩
          go_wp2_with fail
          go_ret
          exact ⟨rfl, below_then B17.out B17.out.size hb18⟩
        · have hmark2 := St.markM (hmk hz)
          have Hmark2 := hide hmark2
          have hDD : insD D nm rr = D := insD_ne hz
          rw [hDD] at S10
          obtain ⟨ce, hce⟩ : ∃ ce, insE D nm rr = ce := ⟨_, rfl⟩
          rw [hce] at hz ⊢
          have hzb : (ce != 0) = true := by simpa using hz
          have S9 := S10
          have Q9 := Q10
          have B9 := hide (B4w.out.trans (B10.out.mono hpB) : Below w.heap.size w w10)
          have HF9 := Hf0
          have HR9 := HR
          clear hmark2 hDD hce hmk S10 Q10 B10 K10 R10 hz
          go_wp2_with fail
          refine Hmark2.out.mono ?_
          rintro e w12 ⟨rfl, rfl⟩
          clear Hmark2
          have hw := walk_ok S9.out (by omega) hnms HF9.out HR9.out
          rw [Hrn.out] at hw
          have Hw := hide hw
          clear hw
          go_wp2_with fail
          refine Hw.out.mono ?_
          rintro e w16 ⟨A16, c16, rfl, hout16, hb16⟩
          have B16 := hide (below_then B9.out B9.out.size hb16)
          have Q16 := hide (Q9.out.below hb16)
          have Q16' := hide hout16
          have hto := told_ok w16 (HT.out.below B16.out) (Nat.le_trans HT.out.three B16.out.size)
          have Hto := hide hto
          clear hto hout16 hb16 Hw S9 B9 Q9
          go_wp2_with fail
          refine Hto.out.mono ?_
          rintro e w17 ⟨rfl, hb17⟩
          have hsr := samerows_any A7 A16 rn c7 rn c16 R R w17 ((Q16.out.below hb17).read Hsm.out) ((Q16'.out.below hb17).read Hsm.out) hrnl
          rw [show decide (R = R) = true by simp] at hsr
          have Hsr := hide hsr
          have B17 := hide (below_then B16.out B16.out.size hb17)
          clear hsr hb17 Hto Q16 Q16'
          go_wp2_with fail
          refine Hsr.out.mono ?_
          rintro e w18 ⟨rfl, hb18⟩
          go_wp2_with fail
          go_ret
          exact ⟨rfl, below_then B17.out B17.out.size hb18⟩
end Go.Proofs.YtekokogmnhlchaaGreatDoor
