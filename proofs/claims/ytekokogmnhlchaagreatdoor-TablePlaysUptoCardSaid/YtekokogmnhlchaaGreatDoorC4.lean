import Derived.Test.YtekokogmnhlchaaGreatDoorA9
set_option linter.unusedSimpArgs false
set_option linter.unusedVariables false
set_option linter.unusedSectionVars false
namespace Go.Proofs.YtekokogmnhlchaaGreatDoor
open Go.RowKit
set_option maxHeartbeats 3200000 in
set_option maxRecDepth 1000000 in
theorem entry_any (db id : Nat) (s : Sch) (tv : Value) (xc : Nat) (xu : Bool) (A : Option Addr) (n c : Nat) (row : List V) (w : World) (hT : Tabs w) (ht : TabV db id s w tv) (hid : id < 256) (hrow : Rd w 3 A n (rowCells row)) (hn : row.length = n) (hx : xc < n) (hx2 : xc < 256) (hv : ∀ v ∈ row, okV v) (hl : ∀ v ∈ row, (keyV v).length ≤ 1000) :
    Calls Tryz.prog 118 #[tv, Ix.val ⟨xc, xu⟩, .slice A n c] w fun e w' => ∃ A' c', e = .returned (.slice A' (entK id ⟨xc, xu⟩ row).length c') ∧ w'.ownsRow w.heap.size 5 1 (.slice A' (entK id ⟨xc, xu⟩ row).length c') (entK id ⟨xc, xu⟩ row).length (bys (entK id ⟨xc, xu⟩ row)) ∧ Below w.heap.size w w' := by
  obtain ⟨CA, cc, XA, xcc, rfl, _⟩ := ht
  subst hn
  obtain ⟨b, o, rfl, a0, a1, a2⟩ := Row.cells hrow xc hx
  obtain ⟨b', o', he, z0, z1, z2⟩ := Row.cells hrow 0 (by omega)
  injection he with he
  injection he with he1 he2 _
  subst he1 he2
  have hm := List.getElem_mem hx
  have hm0 := List.getElem_mem (show 0 < row.length by omega)
  have ec : col row xc = row[xc] := by rw [col, List.getD_eq_getElem?_getD, List.getElem?_eq_getElem hx]; rfl
  have ec0 : col row 0 = row[0] := by rw [col, List.getD_eq_getElem?_getD, List.getElem?_eq_getElem (show 0 < row.length by omega)]; rfl
  have hv1 := hv _ hm
  have hv0 := hv _ hm0
  have hl1 := hl _ hm
  have hl0 := hl _ hm0
  rw [← ec] at hv1 hl1 a0 a1 a2
  rw [← ec0] at hv0 hl0 z0 z1 z2
  obtain ⟨u, hu⟩ : ∃ u, col row xc = u := ⟨_, rfl⟩
  obtain ⟨v, hv'⟩ : ∃ v, col row 0 = v := ⟨_, rfl⟩
  have hent : entK id ⟨xc, xu⟩ row = UInt8.ofNat id :: UInt8.ofNat xc :: (keyV u ++ keyV v) := by rw [entK, ← hu, ← hv']; rfl
  rw [hu] at hv1 hl1 a0 a1 a2
  rw [hv'] at hv0 hl0 z0 z1 z2
  rw [Nat.zero_mul, Nat.add_zero] at z0 z1 z2
  obtain ⟨ul, hul⟩ : ∃ ul, (keyV u).length = ul := ⟨_, rfl⟩
  obtain ⟨vl, hvl⟩ : ∃ vl, (keyV v).length = vl := ⟨_, rfl⟩
  have hlen : (entK id ⟨xc, xu⟩ row).length = 2 + ul + vl := by rw [hent]; simp [hul, hvl]; omega
  rw [hlen]
  obtain ⟨K, hK⟩ : ∃ K, entK id ⟨xc, xu⟩ row = K := ⟨_, rfl⟩
  rw [hK] at hent ⊢
  have hby : bys K = [.int .u8 (id : Nat), .int .u8 (xc : Nat)] ++ bys (keyV u) ++ bys (keyV v) := by
    rw [hent, u8_small (id : Nat) (by omega) (by omega), u8_small (xc : Nat) (by omega) (by omega)]; simp [bys]
  have Hby := hide hby
  rw [hul] at hl1
  rw [hvl] at hl0
  obtain ⟨rn, hrn⟩ : ∃ rn, row.length = rn := ⟨_, rfl⟩
  rw [hrn] at hx ⊢
  obtain ⟨W0, hW0⟩ : ∃ W0, (w.alloc (.cells #[.pointer (some ⟨db, 0, none⟩), .int .u8 (id : Nat), .string s.name, .slice CA s.cols.length cc, .slice XA s.ixs.length xcc] 113)).alloc (.cells #[.int .i64 (xc : Nat), .bool xu] 68) = W0 := ⟨_, rfl⟩
  have hb1 := (Below.refl w.heap.size w).alloc (Nat.le_refl _) (.cells #[.pointer (some ⟨db, 0, none⟩), .int .u8 (id : Nat), .string s.name, .slice CA s.cols.length cc, .slice XA s.ixs.length xcc] 113)
  have hb2 := hb1.alloc hb1.size (.cells #[.int .i64 (xc : Nat), .bool xu] 68)
  have n1 := (C.new w #[.pointer (some ⟨db, 0, none⟩), .int .u8 (id : Nat), .string s.name, .slice CA s.cols.length cc, .slice XA s.ixs.length xcc] 113 1 (v := .int .u8 (id : Nat)) rfl).alloc (.cells #[.int .i64 (xc : Nat), .bool xu] 68)
  have e1 : (w.alloc (.cells #[.pointer (some ⟨db, 0, none⟩), .int .u8 (id : Nat), .string s.name, .slice CA s.cols.length cc, .slice XA s.ixs.length xcc] 113)).heap.size = w.heap.size + 1 := by simp
  have m0 := C.new (w.alloc (.cells #[.pointer (some ⟨db, 0, none⟩), .int .u8 (id : Nat), .string s.name, .slice CA s.cols.length cc, .slice XA s.ixs.length xcc] 113)) #[.int .i64 (xc : Nat), .bool xu] 68 0 (v := .int .i64 (xc : Nat)) rfl
  rw [e1] at m0
  rw [hW0] at hb2 n1 m0
  have HV : Hid (∀ W, Below W0.heap.size W0 W → Calls Tryz.prog 115 #[u.val] W fun e w' => ∃ A c, e = .returned (.slice A ul c) ∧ w'.ownsRow W.heap.size 5 1 (.slice A ul c) ul (bys (keyV u)) ∧ Below W.heap.size W w') := hide fun W hb => by
    have := value_any u hv1 W (hT.below (below_then hb2 hb2.size hb))
    rw [hul] at this
    exact this
  have HV0 : Hid (∀ W, Below w.heap.size w W → Calls Tryz.prog 115 #[v.val] W fun e w' => ∃ A c, e = .returned (.slice A vl c) ∧ w'.ownsRow W.heap.size 5 1 (.slice A vl c) vl (bys (keyV v)) ∧ Below W.heap.size W w') := hide fun W hb => by
    have := value_any v hv0 W (hT.below hb)
    rw [hvl] at this
    exact this
  have Hb2 := hide hb2
  have hwz : w.heap.size ≤ W0.heap.size := hb2.size
  have hN := hide (((Below.refl W0.heap.size W0).alloc (Nat.le_refl _) (.cells #[.int .u8 (id : Nat), .int .u8 (xc : Nat)] 5)).drew)
  have y0 := a0.below hb2
  have y1 := a1.below hb2
  have y2 := a2.below hb2
  have q0 := y0.below hN.out
  have q1 := y1.below hN.out
  have q2 := y2.below hN.out
  have mq := m0.below hN.out
  have hw8 : IntKind.u8.wrap (xc : Int) = xc := wrap_u8 _ (by omega) (by omega)
  have hOA : ((W0.alloc (.cells #[.int .u8 (id : Nat), .int .u8 (xc : Nat)] 5)).drew).ownsRow w.heap.size 5 1 (.slice (some ⟨W0.heap.size, 0, none⟩) 2 2) 2 [.int .u8 (id : Nat), .int .u8 (xc : Nat)] := World.ownsRow_lit (base := w.heap.size) W0 #[.int .u8 (id : Nat), .int .u8 (xc : Nat)] 2 hwz (by decide) rfl
  have HOA := hide hOA
  have hxi : (xc : Int) < (rn : Int) := by omega
  have hr0 : (0 : Int) < (rn : Int) := by omega
  clear hOA hul hvl hT hb1 hb2 e1 hv hl hm hm0 ec ec0 hv1 hv0 hu hv' hent hK hlen hby hrow a0 a1 a2 hrn
  go_enter Tryz.func118, Tryz.ntmps118
  go_wp2_with fail
  clear hW0
  go_region_law
    ((first
      | (refine step_call (f := 115) (vs := [u.val]) (R := fun e w' => ∃ A c, e = .returned (.slice A ul c) ∧ w'.ownsRow W0.drew.heap.size 5 1 (.slice A ul c) ul (bys (keyV u)) ∧ Below W0.drew.heap.size W0.drew w') (by rfl) (by rfl) ?_ (by simp [go_sem]) ?_ ?_; rfl; exact HV.out W0.drew ((Below.refl _ _).drew); rintro e w1 ⟨A1, c1, rfl, hown1, hb1⟩; refine ⟨_, rfl, ?_⟩; have hb1 := undrewd hb1; have n1' := n1.below hb1; have m0' := m0.below hb1)
      | (refine step_call (f := 115) (vs := [u.val]) (R := fun e w' => ∃ A c, e = .returned (.slice A ul c) ∧ w'.ownsRow ((W0.alloc (.cells #[.int .u8 (id : Nat), .int .u8 (xc : Nat)] 5)).drew).heap.size 5 1 (.slice A ul c) ul (bys (keyV u)) ∧ Below ((W0.alloc (.cells #[.int .u8 (id : Nat), .int .u8 (xc : Nat)] 5)).drew).heap.size ((W0.alloc (.cells #[.int .u8 (id : Nat), .int .u8 (xc : Nat)] 5)).drew) w') (by rfl) (by rfl) ?_ (by simp [go_sem]) ?_ ?_; rfl; exact HV.out _ hN.out; rintro e w1 ⟨A1, c1, rfl, hown1, hb1x⟩; refine ⟨_, rfl, ?_⟩)
      | (refine step_app (base := w.heap.size) (n := 2) (xs := [.int .u8 (id : Nat), .int .u8 (xc : Nat)]) (news := bys (keyV u)) (m := ul) u8T (by rfl) (by rfl) (by first | exact own_below HOA.out hb1x | exact World.ownsRow_lit (base := w.heap.size) w1 #[.int .u8 (id : Nat), .int .u8 (xc : Nat)] 2 (Nat.le_trans hwz hb1.size) (by decide) rfl) (by rfl) (by first | exact Rd.of_own hown1 | exact (Rd.of_own hown1).alloc _) (by rfl) (bys_one _) (by omega) (by omega) (by first | exact Nat.le_trans hwz (Nat.le_trans hN.out.size hb1x.size) | exact Nat.le_trans hwz (Nat.le_trans hb1.size (by simp))) ?_; intro A5 c5 w5 hown5 hb5 hg5 hat5)
      | fail))
  all_goals
    have hB5 : Below w.heap.size w w5 := (by
      first
        | exact ((below_then Hb2.out Hb2.out.size (below_chain hN.out hb1x))).trans hb5
        | exact ((below_then Hb2.out Hb2.out.size hb1).alloc (below_then Hb2.out Hb2.out.size hb1).size _).trans hb5)
    have HB5 := hide hB5
    have HO5 := hide hown5
    clear n1 m0 mq y0 y1 y2 q0 q1 q2
    have s0 := z0.below hB5
    have s1 := z1.below hB5
    have s2 := z2.below hB5
    clear hB5 hown5 hb5 hg5 hat5 z0 z1 z2
    go_simp
    go_wp2_with fail
    refine (HV0.out _ HB5.out).mono ?_
    rintro e w6 ⟨A6, c6, rfl, hown6, hb6⟩
    have hO6 := own_below HO5.out hb6
    have hz6 : w.heap.size ≤ w6.heap.size := Nat.le_trans HB5.out.size hb6.size
    go_wp2_with (at_builtin; refine wp_app u8T rfl rfl hO6 rfl (Rd.of_own hown6) rfl (bys_one _) (by omega) (by omega) hz6 ?_; intro A7 c7 w7 hown7 hb7 hg7 hat7)
    go_ret
    exact ⟨A7, c7, rfl, by rw [Hby.out]; exact hown7, (below_then HB5.out HB5.out.size hb6).trans hb7⟩
end Go.Proofs.YtekokogmnhlchaaGreatDoor
