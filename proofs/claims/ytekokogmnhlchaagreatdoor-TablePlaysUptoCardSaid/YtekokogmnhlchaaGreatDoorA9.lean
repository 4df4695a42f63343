import Derived.Test.YtekokogmnhlchaaGreatDoorA6
import Derived.Test.YtekokogmnhlchaaGreatDoorA7
import Derived.Test.YtekokogmnhlchaaGreatDoorA8
import Derived.Test.YtekokogmnhlchaaGreatDoorA4
import Derived.Test.YtekokogmnhlchaaGreatDoorProg
import Derived.Test.YtekokogmnhlchaaGreatDoorA5
import Derived.Deep.RegionLaw
import Derived.Shelf.SlGeneric
import Derived.Ground.NamesProg
import Derived.Ground.SlsfProg
import Derived.Shelf.Slices.Turned
import Derived.Shelf.SlSortCmp.WholeK
import Derived.Shelf.SlSortCmp.NoneTotal
import Derived.Shelf.Small.Utf8
import Derived.Maps.RangeWalk
import Derived.Maps.Ext
import Derived.Maps.OwnOps
set_option linter.unusedSimpArgs false
set_option linter.unusedVariables false
set_option linter.unusedSectionVars false
namespace Go.Proofs.YtekokogmnhlchaaGreatDoor
open Go.RowKit
structure DbAt (B0 : Nat) (w : World) (db sb : Nat) (L : List Chg) (D : List Tb) : Prop where
  d : DraftAt B0 w db sb L
  rep : Rep L D
  cnt : RepN L D
  ok : Ok D
  small : ∀ x ∈ L, x.val.length ≤ 1800 ∧ x.key.length ≤ 60 ∧ (x.gone = true → x.val = [])
  tabs : Tabs w
  b0 : 3 ≤ B0
section
variable {B0 db sb : Nat} {w w' : World} {L : List Chg} {D : List Tb}
theorem DbAt.below (h : DbAt B0 w db sb L D) (hb : Below w.heap.size w w') : DbAt B0 w' db sb L D := ⟨h.d.below hb, h.rep, h.cnt, h.ok, h.small, h.tabs.below hb, h.b0⟩
end
def TabV (db id : Nat) (s : Sch) (w : World) (tv : Value) : Prop := ∃ A c B d, tv = .agg #[.pointer (some ⟨db, 0, none⟩), .int .u8 (id : Nat), .string s.name, .slice A s.cols.length c, .slice B s.ixs.length d] ∧ SchV w s (.agg #[.string s.name, .slice A s.cols.length c, .slice B s.ixs.length d])
theorem TabV.below {db id : Nat} {s : Sch} {w w' : World} {tv : Value} (h : TabV db id s w tv) (hb : Below w.heap.size w w') : TabV db id s w' tv := by
  obtain ⟨A, c, B, d, e, hs⟩ := h
  exact ⟨A, c, B, d, e, hs.below hb⟩
theorem encS_len {s : Sch} (h : rightS s = true) : (encS s).length ≤ 100 := by
  have hf := right_facts h
  have h1 := name_size hf.nm
  have h2 : ∀ (l : List Col), (∀ c ∈ l, colB c = true) → (l.flatMap encC).length ≤ 11 * l.length := by
    intro l
    induction l with
    | nil => simp
    | cons c l ih =>
      intro hc
      have h3 := name_size (colB_facts (hc c (by simp))).1
      have h4 := ih fun x hx => hc x (by simp [hx])
      simp only [List.flatMap_cons, List.length_append, List.length_cons, encC, encB_len, List.length_nil]
      omega
  have h3 : ∀ (l : List Ix), (l.flatMap encX).length = 2 * l.length := by
    intro l
    induction l with
    | nil => simp
    | cons c l ih => simp only [List.flatMap_cons, List.length_append, List.length_cons, ih, encX, List.length_nil]; omega
  have h4 := h2 s.cols hf.cs
  have h5 := h3 s.ixs
  have h6 := hf.c3
  have h7 := hf.x3
  simp only [encS, List.length_append, encB_len, List.length_cons, List.length_nil]
  omega
def zTab : Array Value := #[.pointer none, .int .u8 0, .string ⟨#[]⟩, .slice none 0 0, .slice none 0 0]
set_option maxHeartbeats 1600000 in
set_option maxRecDepth 1000000 in
theorem find_none_ (B0 db sb : Nat) (L : List Chg) (D : List Tb) (nm : ByteArray) (w : World) (hd : DbAt B0 w db sb L D) (hs : nm.size ≤ 9223372036854775807) (hf : findT D nm 0 = none) :
    Calls Tryz.prog 59 #[.pointer (some ⟨db, 0, none⟩), .string nm] w fun e w' => e = .returned (.tuple #[.agg zTab, .int .i64 60]) ∧ Below w.heap.size w w' := by
  have hres := Blk.new w zTab 113
  have hb0 := (Below.refl w.heap.size w).alloc (Nat.le_refl _) (.cells zTab 113)
  have hnm := name_any nm (w.alloc (.cells zTab 113)) hs
  have fin : ∀ W, Blk W w.heap.size zTab 113 → Below w.heap.size w W →
      (W.cell? ⟨w.heap.size, 0, none⟩ = some (.pointer none) ∧ W.cell? ⟨w.heap.size, 1, none⟩ = some (.int .u8 0) ∧ W.cell? ⟨w.heap.size, 2, none⟩ = some (.string ⟨#[]⟩) ∧ W.cell? ⟨w.heap.size, 3, none⟩ = some (.slice none 0 0) ∧ W.cell? ⟨w.heap.size, 4, none⟩ = some (.slice none 0 0)) ∧
      (W.frozen? ⟨w.heap.size, 0, none⟩ = false ∧ W.frozen? ⟨w.heap.size, 1, none⟩ = false ∧ W.frozen? ⟨w.heap.size, 2, none⟩ = false ∧ W.frozen? ⟨w.heap.size, 3, none⟩ = false ∧ W.frozen? ⟨w.heap.size, 4, none⟩ = false) := fun W h _ => ⟨⟨h.c 0 rfl, h.c 1 rfl, h.c 2 rfl, h.c 3 rfl, h.c 4 rfl⟩, h.fr 0, h.fr 1, h.fr 2, h.fr 3, h.fr 4⟩
  have fin2 : ∀ W, Blk W w.heap.size zTab 113 → Below w.heap.size w W → ∃ W', W' = (((((W.setCell ⟨w.heap.size, 0, none⟩ (.pointer none)).setCell ⟨w.heap.size, 1, none⟩ (.int .u8 0)).setCell ⟨w.heap.size, 2, none⟩ (.string ⟨#[]⟩)).setCell ⟨w.heap.size, 3, none⟩ (.slice none 0 0)).setCell ⟨w.heap.size, 4, none⟩ (.slice none 0 0)) ∧
      (W'.cell? ⟨w.heap.size, 0, none⟩ = some (.pointer none) ∧ W'.cell? ⟨w.heap.size, 1, none⟩ = some (.int .u8 0) ∧ W'.cell? ⟨w.heap.size, 2, none⟩ = some (.string ⟨#[]⟩) ∧ W'.cell? ⟨w.heap.size, 3, none⟩ = some (.slice none 0 0) ∧ W'.cell? ⟨w.heap.size, 4, none⟩ = some (.slice none 0 0)) ∧ Below w.heap.size w W' := fun W h hb => by
    have h5 := ((((h.set 0 (.pointer none)).set 1 (.int .u8 0)).set 2 (.string ⟨#[]⟩)).set 3 (.slice none 0 0)).set 4 (.slice none 0 0)
    refine ⟨_, rfl, ⟨h5.c 0 rfl, h5.c 1 rfl, h5.c 2 rfl, h5.c 3 rfl, h5.c 4 rfl⟩, ?_⟩
    exact ((((hb.setCell (p := ⟨w.heap.size, 0, none⟩) (by simp) _).setCell (p := ⟨w.heap.size, 1, none⟩) (by simp) _).setCell (p := ⟨w.heap.size, 2, none⟩) (by simp) _).setCell (p := ⟨w.heap.size, 3, none⟩) (by simp) _).setCell (p := ⟨w.heap.size, 4, none⟩) (by simp) _
  have Fin := hide fin
  have Fin2 := hide fin2
  have Hres := hide hres
  have Hb0 := hide hb0
  clear fin fin2
  cases hn : nameB nm
  · rw [hn] at hnm
    have Hnm := hide hnm
    clear hnm hres hb0 hf hd hn
    go_enter Tryz.func59, Tryz.ntmps59
    go_wp2_with fail
    refine Hnm.out.mono ?_
    rintro e w1 ⟨rfl, hb1⟩
    have hR := Hres.out.below hb1
    have hB := below_then Hb0.out Hb0.out.size hb1
    obtain ⟨⟨c0, c1, c2, c3, c4⟩, f0, f1, f2, f3, f4⟩ := Fin.out w1 hR hB
    obtain ⟨W', hW, ⟨d0, d1, d2, d3, d4⟩, hbW⟩ := Fin2.out w1 hR hB
    have HW := hide hbW
    subst hW
    clear hR hB hbW hb1 Fin Fin2 Hres Hb0 Hnm
    go_wp2_with fail
    refine bodyPost_ret (v := .tuple #[.agg zTab, .int .i64 60]) (by simp [results, Tryz.results59, go_sem, d0, d1, d2, d3, d4, zTab]) rfl ?_
    exact ⟨rfl, HW.out⟩
  rw [hn] at hnm
  have Hnm := hide hnm
  have hsz := name_size hn
  have hg := hd.rep.find_none hf
  have HD := hide hd
  have Hg := hide hg
  clear hnm hres hb0 hf hd hn hg
  go_enter Tryz.func59, Tryz.ntmps59
  go_wp2_with fail
  refine Hnm.out.mono ?_
  rintro e w1 ⟨rfl, hb1⟩
  have hR := Hres.out.below hb1
  have hB := below_then Hb0.out Hb0.out.size hb1
  obtain ⟨A, c, w2, hcv, hrk, hb2, hc⟩ := run_conv w1 nm
  have hR2 := hR.below hb2
  have hB2 := below_then hB hB.size hb2
  have hD2 := HD.out.below hB2
  have hget := dget2 B0 db sb L 0 A nm.size c nm.data.toList w2 hD2.d hrk (by omega) (by omega) (by omega) (by omega) (fun x hx => (hD2.small x hx).1)
  rw [Hg.out] at hget
  have Hget := hide hget
  have HR2 := hide hR2
  have HB2 := hide hB2
  clear hR hB hb1 hrk hb2 hR2 hB2 hD2 hget Hres Hb0 Hnm HD
  go_wp2_with fail
  refine Hget.out.mono ?_
  rintro e w3 ⟨A3, n3, c3, rfl, _, _, hb3⟩
  have hR := HR2.out.below hb3
  have hB := below_then HB2.out HB2.out.size hb3
  obtain ⟨⟨c0, c1, c2, c3, c4⟩, f0, f1, f2, f3, f4⟩ := Fin.out w3 hR hB
  obtain ⟨W', hW, ⟨d0, d1, d2, d3, d4⟩, hbW⟩ := Fin2.out w3 hR hB
  have HW := hide hbW
  subst hW
  rw [show (none : Option (List UInt8)).isSome = false from rfl]
  clear hR hB hbW hb3 Fin Fin2 Hget HR2 HB2 hcv
  go_wp2_with fail
  refine bodyPost_ret (v := .tuple #[.agg zTab, .int .i64 60]) (by simp [results, Tryz.results59, go_sem, d0, d1, d2, d3, d4, zTab]) rfl ?_
  exact ⟨rfl, HW.out⟩
set_option maxHeartbeats 800000 in
set_option maxRecDepth 1000000 in
theorem value_any (v : V) (hv : okV v) (w : World) (hT : Tabs w) : Calls Tryz.prog 115 #[v.val] w fun e w' => ∃ A c, e = .returned (.slice A (keyV v).length c) ∧ w'.ownsRow w.heap.size 5 1 (.slice A (keyV v).length c) (keyV v).length (bys (keyV v)) ∧ Below w.heap.size w w' := by
  have hb1 := (Below.refl w.heap.size w).alloc (Nat.le_refl _) (.cells #[.int .i64 v.k, .int .i64 v.n, .string v.s] 28)
  have hb2 := hb1.alloc hb1.size (.cells #[.int .i64 v.k, .int .i64 v.n, .string v.s] 28)
  have hrd : Rd ((w.alloc (.cells #[.int .i64 v.k, .int .i64 v.n, .string v.s] 28)).alloc (.cells #[.int .i64 v.k, .int .i64 v.n, .string v.s] 28)) 3 (some ⟨w.heap.size + 1, 0, none⟩) 1 (rowCells [v]) := by
    have := Rd.lit (w.alloc (.cells #[.int .i64 v.k, .int .i64 v.n, .string v.s] 28)) #[.int .i64 v.k, .int .i64 v.n, .string v.s] 28 3 1 (w.heap.size + 1) (by simp) rfl
    simpa [rowCells, V.cells] using this
  have hk := key_any (some ⟨w.heap.size + 1, 0, none⟩) 1 [v] _ hrd (by simp) (by simp [hv.1]) (by simp [hv.2.2]) (hT.below hb2) (by simp [hv.2.1])
  rw [show keyL [v] = keyV v by simp [keyL]] at hk
  have Hk := hide hk
  have Hb := hide hb2
  clear hk hb1 hb2 hrd
  go_enter Tryz.func115, Tryz.ntmps115
  go_wp2_with fail
  refine Hk.out.mono ?_
  rintro e w1 ⟨A, c, rfl, hown, hb⟩
  have H1 := hide (own_mono hown Hb.out.size)
  have H2 := hide (below_then Hb.out Hb.out.size hb)
  clear hown hb Hk Hb
  go_wp2
  go_ret
  exact ⟨A, c, rfl, H1.out, H2.out⟩
set_option maxHeartbeats 1600000 in
set_option maxRecDepth 1000000 in
theorem row_any (db id : Nat) (s : Sch) (tv : Value) (v : V) (hv : okV v) (hl : (keyV v).length ≤ 100000000) (w : World) (hT : Tabs w) (ht : TabV db id s w tv) (hid : id < 256) : Calls Tryz.prog 116 #[tv, v.val] w fun e w' => ∃ A c, e = .returned (.slice A (1 + (keyV v).length) c) ∧ w'.ownsRow w.heap.size 5 1 (.slice A (1 + (keyV v).length) c) (1 + (keyV v).length) (bys (rowK id v)) ∧ Below w.heap.size w w' := by
  obtain ⟨CA, cc, XA, xc, rfl, _⟩ := ht
  obtain ⟨kl, hkl⟩ : ∃ kl, (keyV v).length = kl := ⟨_, rfl⟩
  obtain ⟨W0, hW0⟩ : ∃ W0, (w.alloc (.cells #[.pointer (some ⟨db, 0, none⟩), .int .u8 (id : Nat), .string s.name, .slice CA s.cols.length cc, .slice XA s.ixs.length xc] 113)).alloc (.cells #[.int .i64 v.k, .int .i64 v.n, .string v.s] 28) = W0 := ⟨_, rfl⟩
  have hb1 := (Below.refl w.heap.size w).alloc (Nat.le_refl _) (.cells #[.pointer (some ⟨db, 0, none⟩), .int .u8 (id : Nat), .string s.name, .slice CA s.cols.length cc, .slice XA s.ixs.length xc] 113)
  have hb2 := hb1.alloc hb1.size (.cells #[.int .i64 v.k, .int .i64 v.n, .string v.s] 28)
  have n1 := (C.new w #[.pointer (some ⟨db, 0, none⟩), .int .u8 (id : Nat), .string s.name, .slice CA s.cols.length cc, .slice XA s.ixs.length xc] 113 1 (v := .int .u8 (id : Nat)) rfl).alloc (.cells #[.int .i64 v.k, .int .i64 v.n, .string v.s] 28)
  have e1 : (w.alloc (.cells #[.pointer (some ⟨db, 0, none⟩), .int .u8 (id : Nat), .string s.name, .slice CA s.cols.length cc, .slice XA s.ixs.length xc] 113)).heap.size = w.heap.size + 1 := by simp
  have m0 := C.new (w.alloc (.cells #[.pointer (some ⟨db, 0, none⟩), .int .u8 (id : Nat), .string s.name, .slice CA s.cols.length cc, .slice XA s.ixs.length xc] 113)) #[.int .i64 v.k, .int .i64 v.n, .string v.s] 28 0 (v := .int .i64 v.k) rfl
  have m1 := C.new (w.alloc (.cells #[.pointer (some ⟨db, 0, none⟩), .int .u8 (id : Nat), .string s.name, .slice CA s.cols.length cc, .slice XA s.ixs.length xc] 113)) #[.int .i64 v.k, .int .i64 v.n, .string v.s] 28 1 (v := .int .i64 v.n) rfl
  have m2 := C.new (w.alloc (.cells #[.pointer (some ⟨db, 0, none⟩), .int .u8 (id : Nat), .string s.name, .slice CA s.cols.length cc, .slice XA s.ixs.length xc] 113)) #[.int .i64 v.k, .int .i64 v.n, .string v.s] 28 2 (v := .string v.s) rfl
  rw [e1] at m0 m1 m2
  rw [hW0] at hb2 n1 m0 m1 m2
  have HV : Hid (∀ W, Below W0.heap.size W0 W → Calls Tryz.prog 115 #[v.val] W fun e w' => ∃ A c, e = .returned (.slice A kl c) ∧ w'.ownsRow W.heap.size 5 1 (.slice A kl c) kl (bys (keyV v)) ∧ Below W.heap.size W w') := hide fun W hb => by
    have := value_any v hv W (hT.below (below_then hb2 hb2.size hb))
    rw [hkl] at this
    exact this
  have Hb2 := hide hb2
  rw [hkl] at hl ⊢
  have Hkl := hide hkl
  have hN := hide (((Below.refl W0.heap.size W0).alloc (Nat.le_refl _) (.cells #[.int .u8 (id : Nat)] 5)).drew)
  have q0 := m0.below hN.out
  have q1 := m1.below hN.out
  have q2 := m2.below hN.out
  clear hkl hT hb1 hb2 e1
  go_enter Tryz.func116, Tryz.ntmps116
  go_wp2_with fail
  clear hW0
  have hwz : w.heap.size ≤ W0.heap.size := Hb2.out.size
  have hOA : ((W0.alloc (.cells #[.int .u8 (id : Nat)] 5)).drew).ownsRow w.heap.size 5 1 (.slice (some ⟨W0.heap.size, 0, none⟩) 1 1) 1 [.int .u8 (id : Nat)] := World.ownsRow_lit (base := w.heap.size) W0 #[.int .u8 (id : Nat)] 1 hwz (by decide) rfl
  have HOA := hide hOA
  clear hOA
  go_region_law
    ((first
      | (refine step_call (f := 115) (vs := [v.val]) (R := fun e w' => ∃ A c, e = .returned (.slice A kl c) ∧ w'.ownsRow W0.drew.heap.size 5 1 (.slice A kl c) kl (bys (keyV v)) ∧ Below W0.drew.heap.size W0.drew w') (by rfl) (by rfl) ?_ (by simp [go_sem]) ?_ ?_; rfl; exact HV.out W0.drew ((Below.refl _ _).drew); rintro e w1 ⟨A1, c1, rfl, hown1, hb1⟩; refine ⟨_, rfl, ?_⟩; have hb1 := undrewd hb1; have n1' := n1.below hb1)
      | (refine step_call (f := 115) (vs := [v.val]) (R := fun e w' => ∃ A c, e = .returned (.slice A kl c) ∧ w'.ownsRow (W0.alloc (.cells #[.int .u8 (id : Nat)] 5)).drew.heap.size 5 1 (.slice A kl c) kl (bys (keyV v)) ∧ Below (W0.alloc (.cells #[.int .u8 (id : Nat)] 5)).drew.heap.size (W0.alloc (.cells #[.int .u8 (id : Nat)] 5)).drew w') (by rfl) (by rfl) ?_ (by simp [go_sem]) ?_ ?_; rfl; exact HV.out _ hN.out; rintro e w1 ⟨A1, c1, rfl, hown1, hb1x⟩; refine ⟨_, rfl, ?_⟩)
      | (refine step_app (base := w.heap.size) (n := 1) (xs := [.int .u8 (id : Nat)]) (news := bys (keyV v)) (m := kl) u8T (by rfl) (by rfl) (by first | exact own_below HOA.out hb1x | exact World.ownsRow_lit (base := w.heap.size) w1 #[.int .u8 (id : Nat)] 1 (Nat.le_trans hwz hb1.size) (by decide) rfl) (by rfl) (by first | exact Rd.of_own hown1 | exact (Rd.of_own hown1).alloc _) (by rfl) (bys_one _) (by omega) (by omega) (by first | exact Nat.le_trans hwz (Nat.le_trans hN.out.size hb1x.size) | exact Nat.le_trans hwz (Nat.le_trans hb1.size (by simp))) ?_; intro A5 c5 w5 hown5 hb5 hg5 hat5)
      | fail))
  all_goals
    have hid8 : bys (rowK id v) = [.int .u8 (id : Nat)] ++ bys (keyV v) := by
      rw [rowK, u8_small (id : Nat) (by omega) (by omega)]; simp [bys]
    have hB5 : Below w.heap.size w w5 := (by
      first
        | exact ((below_then Hb2.out Hb2.out.size (below_chain hN.out hb1x))).trans hb5
        | exact ((below_then Hb2.out Hb2.out.size hb1).alloc (below_then Hb2.out Hb2.out.size hb1).size _).trans hb5)
    have HB5 := hide hB5
    have HO5 := hide hown5
    clear hB5 hown5 hb5 hg5 hat5
    go_simp
    go_wp2
    go_ret
    exact ⟨A5, c5, rfl, by rw [hid8]; exact HO5.out, HB5.out⟩
theorem getC_val {L : List Chg} {sp : Int} {k v : List UInt8} (h : getC L sp k = some v) : ∃ x ∈ L, x.val = v := by
  unfold getC at h
  cases hl : lastC L sp k with
  | none => rw [hl] at h; cases h
  | some c =>
    rw [hl] at h
    simp only at h
    have hm : c ∈ L := by
      have := List.mem_of_find?_eq_some hl
      simpa using this
    split at h
    · cases h
    exact ⟨c, hm, Option.some.inj h⟩
def GetRow (base : Nat) (T : Tb) (v : V) (w : World) (w' : World) (e : Ending) : Prop := match wasT T v with
  | none => e = .returned (.tuple #[.slice none 0 0, .bool false, .int .i64 0])
  | some r => ∃ A c, e = .returned (.tuple #[.slice A r.length c, .bool true, .int .i64 0]) ∧ w'.ownsRow base 28 3 (.slice A r.length c) r.length (rowCells r)
set_option maxHeartbeats 1600000 in
set_option maxRecDepth 1000000 in
theorem get_any (B0 db sb : Nat) (L : List Chg) (D : List Tb) (i : Nat) (T : Tb) (tv : Value) (v : V) (hv : okV v) (hvl : (keyV v).length ≤ 100000000) (w : World) (hd : DbAt B0 w db sb L D) (hT : D[i]? = some T) (ht : TabV db i T.s w tv) :
    Calls Tryz.prog 61 #[tv, v.val] w fun e w' => GetRow w.heap.size T v w w' e ∧ Below w.heap.size w w' := by
  have ht' := ht
  obtain ⟨CA, cc, XA, xc, rfl, hsv⟩ := ht
  have hi4 := hd.ok.lt4 hT
  obtain ⟨W0, hW0⟩ : ∃ W0, (w.alloc (.cells #[.pointer (some ⟨db, 0, none⟩), .int .u8 (i : Nat), .string T.s.name, .slice CA T.s.cols.length cc, .slice XA T.s.ixs.length xc] 113)).alloc (.cells #[.int .i64 v.k, .int .i64 v.n, .string v.s] 28) = W0 := ⟨_, rfl⟩
  have hb1 := (Below.refl w.heap.size w).alloc (Nat.le_refl _) (.cells #[.pointer (some ⟨db, 0, none⟩), .int .u8 (i : Nat), .string T.s.name, .slice CA T.s.cols.length cc, .slice XA T.s.ixs.length xc] 113)
  have hb2 := hb1.alloc hb1.size (.cells #[.int .i64 v.k, .int .i64 v.n, .string v.s] 28)
  have hB1 := (Blk.new w #[.pointer (some ⟨db, 0, none⟩), .int .u8 (i : Nat), .string T.s.name, .slice CA T.s.cols.length cc, .slice XA T.s.ixs.length xc] 113).alloc (.cells #[.int .i64 v.k, .int .i64 v.n, .string v.s] 28)
  have e1 : (w.alloc (.cells #[.pointer (some ⟨db, 0, none⟩), .int .u8 (i : Nat), .string T.s.name, .slice CA T.s.cols.length cc, .slice XA T.s.ixs.length xc] 113)).heap.size = w.heap.size + 1 := by simp
  have hB2 := Blk.new (w.alloc (.cells #[.pointer (some ⟨db, 0, none⟩), .int .u8 (i : Nat), .string T.s.name, .slice CA T.s.cols.length cc, .slice XA T.s.ixs.length xc] 113)) #[.int .i64 v.k, .int .i64 v.n, .string v.s] 28
  rw [e1] at hB2
  rw [hW0] at hb2 hB1 hB2
  obtain ⟨vl, hvl'⟩ : ∃ vl, (keyV v).length = vl := ⟨_, rfl⟩
  have hval := value_any v hv W0 (hd.tabs.below hb2)
  rw [hvl'] at hval
  have m0 := hB2.c 0 (v := .int .i64 v.k) rfl
  have m1 := hB2.c 1 (v := .int .i64 v.n) rfl
  have m2 := hB2.c 2 (v := .string v.s) rfl
  have hwz := hb2.size
  have Hb2 := hide hb2
  have HB1 := hide hB1
  have HB2 := hide hB2
  have Hval := hide hval
  have Hd := hide hd
  have Ht := hide ht'
  have Hvl := hide hvl'
  have HT := hide hT
  rw [hvl'] at hvl
  clear hb1 hb2 hB1 hB2 e1 hval hd ht' hsv hvl' hT
  go_enter Tryz.func61, Tryz.ntmps61
  go_wp2_with fail
  refine Hval.out.mono ?_
  rintro e w1 ⟨A1, c1, rfl, hown1, hb1⟩
  have Hb1 := hide hb1
  clear hown1 hb1 hW0 m0 m1 m2
  by_cases hlong : 28 < vl
  · have hw : wasT T v = none := wasT_long Hd.out.ok HT.out (by rw [Hvl.out]; exact hlong)
    have hli : (28 : Int) < (vl : Int) := by omega
    have Hw := hide hw
    clear hw
    go_wp2_with fail
    go_ret3
    refine ⟨?_, below_then Hb2.out Hb2.out.size Hb1.out⟩
    unfold GetRow
    rw [Hw.out]
    rfl
  have hli : ¬ (28 : Int) < (vl : Int) := by omega
  have hM1 := HB2.out.below Hb1.out
  have hN1 := HB1.out.below Hb1.out
  have hbw := below_then Hb2.out Hb2.out.size Hb1.out
  have m0 := hM1.c 0 (v := .int .i64 v.k) rfl
  have m1 := hM1.c 1 (v := .int .i64 v.n) rfl
  have m2 := hM1.c 2 (v := .string v.s) rfl
  have n0 := hN1.c 0 (v := .pointer (some ⟨db, 0, none⟩)) rfl
  have n1 := hN1.c 1 (v := .int .u8 (i : Nat)) rfl
  have x2' := hN1.c 2 (v := .string T.s.name) rfl
  have x3' := hN1.c 3 (v := .slice CA T.s.cols.length cc) rfl
  have x4' := hN1.c 4 (v := .slice XA T.s.ixs.length xc) rfl
  have HN1 := hide hN1
  have hrow : Calls Tryz.prog 116 #[.agg #[.pointer (some ⟨db, 0, none⟩), .int .u8 (i : Nat), .string T.s.name, .slice CA T.s.cols.length cc, .slice XA T.s.ixs.length xc], .agg #[.int .i64 v.k, .int .i64 v.n, .string v.s]] w1.drew _ := row_any db i T.s _ v hv (by rw [Hvl.out]; exact hvl) w1.drew ((Hd.out.tabs.below hbw).below ((Below.refl _ _).drew)) ((Ht.out.below hbw).below ((Below.refl _ _).drew)) (by omega)
  rw [Hvl.out] at hrow
  have Hrow := hide hrow
  have Hbw := hide hbw
  clear hM1 hN1 hrow hbw Hb2 HB1 HB2 Hval Hb1
  go_wp2_with fail
  have HG : Hid (∀ W A c, Below w.heap.size w W → RB W A (1 + vl) (rowK i v) → Calls Tryz.prog 112 #[.pointer (some ⟨db, 0, none⟩), .int .i64 1, .slice A (1 + vl) c] W (GetPost2 B0 W L (getC L 1 (rowK i v)))) := hide fun W A c hb hr => dget2 B0 db sb L 1 A (1 + vl) c (rowK i v) W (Hd.out.d.below hb) hr (by omega) (by omega) (by omega) (by omega) (fun x hx => (Hd.out.small x hx).1)
  go_region_law
    ((first
      | (refine step_call (f := 116) (vs := [.agg #[.pointer (some ⟨db, 0, none⟩), .int .u8 (i : Nat), .string T.s.name, .slice CA T.s.cols.length cc, .slice XA T.s.ixs.length xc], .agg #[.int .i64 v.k, .int .i64 v.n, .string v.s]]) (R := fun e w' => ∃ A c, e = .returned (.slice A (1 + vl) c) ∧ w'.ownsRow w1.drew.heap.size 5 1 (.slice A (1 + vl) c) (1 + vl) (bys (rowK i v)) ∧ Below w1.drew.heap.size w1.drew w') (by rfl) (by rfl) ?_ (by simp [go_sem]) ?_ ?_; rfl; exact Hrow.out; rintro e w2 ⟨A2, c2, rfl, hown2, hb2⟩; refine ⟨_, rfl, ?_⟩; have hb2 := undrewd hb2; have n0' := n0.below hb2; have hbw2 := below_then Hbw.out Hbw.out.size hb2)
      | (refine step_call (f := 112) (vs := [.pointer (some ⟨db, 0, none⟩), .int .i64 1, .slice A2 (1 + vl) c2]) (R := GetPost2 B0 w2 L (getC L 1 (rowK i v))) (by rfl) (by rfl) ?_ (by simp [go_sem]) ?_ ?_; rfl; exact HG.out w2 A2 c2 hbw2 (Rd.of_own hown2); rintro e w3 ⟨A3, n3, c3, rfl, hrd3, hno3, hb3⟩; refine ⟨_, rfl, ?_⟩)
      | fail))
  all_goals
    have hbw3 := below_then hbw2 hbw2.size hb3
    have Hbw3 := hide hbw3
    clear n0' hown2 hbw2 hb2 hb3 hbw3 HG Hrow m0 m1 m2 n0 n1 x2' x3' x4'
    cases hw : wasT T v with
    | none =>
      have hg := Hd.out.rep.get_none Hd.out.ok HT.out hv hw
      rw [hg] at hrd3 hno3 ⊢
      rw [show (none : Option (List UInt8)).isSome = false from rfl]
      have Hw := hide hw
      clear hrd3 hno3 hg hw
      go_simp
      go_wp2_with fail
      go_ret3
      refine ⟨?_, Hbw3.out⟩
      unfold GetRow
      rw [Hw.out]
      rfl
    | some r =>
      have hg := Hd.out.rep.get_some HT.out hw
      have hro := ((Hd.out.ok.fit i T HT.out r (wasT_some hw).1).row (Hd.out.ok.right i T HT.out))
      rw [hg] at hrd3 hno3 ⊢
      rw [show (some (keyL r)).isSome = true from rfl]
      obtain ⟨hrd3, hnc3⟩ := hrd3 _ rfl
      have hn3 : n3 ≤ 1800 := by
        have h1 := RB.len hrd3.rd
        have h2 : (keyL r).length ≤ 1800 := by
          obtain ⟨x, hx, hxv⟩ := (getC_val hg)
          rw [← hxv]
          exact (Hd.out.small x hx).1
        omega
      have hdec := decrow_ok A3 n3 c3 r hro w3 hrd3.rd hnc3 (by omega) (Hd.out.tabs.below Hbw3.out)
      have Hdec := hide hdec
      have Hw := hide hw
      have hwz3 := Hbw3.out.size
      clear hrd3 hno3 hg hw hdec hro
      go_simp
      go_wp2_with fail
      refine Hdec.out.mono ?_
      rintro e w4 ⟨A4, c4, rfl, hown4, hb4⟩
      have Ho4 := hide (own_mono hown4 hwz3)
      have Hb4 := hide (below_then Hbw3.out Hbw3.out.size hb4)
      clear hown4 hb4 Hdec
      go_wp2_with fail
      go_ret3
      refine ⟨?_, Hb4.out⟩
      unfold GetRow
      rw [Hw.out]
      exact ⟨A4, c4, rfl, Ho4.out⟩
end Go.Proofs.YtekokogmnhlchaaGreatDoor
/-
  DERIVED: THE SHELF's CONTRACTS AT THIS DUMP, IN PLAIN WORDS (tools/lay-plain.mjs out of 'TryzShelfB.lean', which tools/lay-shelf.mjs wrote): THE SAME DECLARATIONS UNDER THE SAME NAMES: 'import', 'namespace', 'open', 'def', 'theorem' AND NOTHING ELSE: no command of the shelf's: FOR A HAND-IN. Each laying: the table of numbers ('.._ren') and one theorem, a field a fact of the dump's own or the kernel's comparison; each contract: ONE APPLICATION.
-/
namespace Go.Proofs
open Go.Shelf
def Tryz.sortPair_ren : Go.Shelf.Ren := ⟨fun | 6 => 125 | 15 => 148 | 14 => 180 | 28 => 192 | 29 => 193 | 20 => 213 | 21 => 214 | 22 => 215 | 23 => 216 | 24 => 217 | 25 => 218 | 26 => 219 | 27 => 220 | 46 => 238 | 47 => 224 | 48 => 225 | 49 => 239 | 50 => 240 | 57 => 247 | n => n, fun | 22 => 128 | 24 => 132 | 25 => 196 | 3 => 3 | 39 => 217 | 0 => 0 | 53 => 268 | 55 => 166 | 4 => 4 | 46 => 262 | 45 => 261 | 50 => 205 | 5 => 5 | 9 => 9 | 66 => 315 | 70 => 319 | 76 => 338 | 77 => 234 | n => n, fun | n => n⟩
theorem Tryz.sortPair : Go.Proofs.SlLaysF0.n6 Tryz.prog Tryz.sortPair_ren := {
  mixed := by kernel_rfl
  f6 := ⟨Tryz.f125.name, by decide, Tryz.func125.trans (congrArg some (by kernel_rfl))⟩
  f14 := ⟨Tryz.f180.name, by decide, Tryz.func180.trans (congrArg some (by kernel_rfl))⟩
  f15 := Tryz.func148.trans (congrArg some (by kernel_rfl))
  f20 := ⟨Tryz.f213.name, by decide, Tryz.func213.trans (congrArg some (by kernel_rfl))⟩
  f21 := ⟨Tryz.f214.name, by decide, Tryz.func214.trans (congrArg some (by kernel_rfl))⟩
  f22 := ⟨Tryz.f215.name, by decide, Tryz.func215.trans (congrArg some (by kernel_rfl))⟩
  f23 := ⟨Tryz.f216.name, by decide, Tryz.func216.trans (congrArg some (by kernel_rfl))⟩
  f24 := ⟨Tryz.f217.name, by decide, Tryz.func217.trans (congrArg some (by kernel_rfl))⟩
  f25 := ⟨Tryz.f218.name, by decide, Tryz.func218.trans (congrArg some (by kernel_rfl))⟩
  f26 := ⟨Tryz.f219.name, by decide, Tryz.func219.trans (congrArg some (by kernel_rfl))⟩
  f27 := ⟨Tryz.f220.name, by decide, Tryz.func220.trans (congrArg some (by kernel_rfl))⟩
  f28 := Tryz.func192.trans (congrArg some (by kernel_rfl))
  f29 := Tryz.func193.trans (congrArg some (by kernel_rfl))
  f46 := ⟨Tryz.f238.name, by decide, Tryz.func238.trans (congrArg some (by kernel_rfl))⟩
  f47 := Tryz.func224.trans (congrArg some (by kernel_rfl))
  f48 := Tryz.func225.trans (congrArg some (by kernel_rfl))
  f49 := ⟨Tryz.f239.name, by decide, Tryz.func239.trans (congrArg some (by kernel_rfl))⟩
  f50 := ⟨Tryz.f240.name, by decide, Tryz.func240.trans (congrArg some (by kernel_rfl))⟩
  f57 := ⟨Tryz.f247.name, by decide, Tryz.func247.trans (congrArg some (by kernel_rfl))⟩
  t0 := Tryz.underlying0
  a0 := Tryz.isAgg0
  z0 := Tryz.sizeOf0
  v0 := Tryz.zeroValue0
  t3 := Tryz.underlying3
  a3 := Tryz.isAgg3
  z3 := Tryz.sizeOf3
  v3 := Tryz.zeroValue3
  t4 := Tryz.underlying4
  a4 := Tryz.isAgg4
  z4 := Tryz.sizeOf4
  v4 := Tryz.zeroValue4
  t5 := Tryz.underlying5
  a5 := Tryz.isAgg5
  z5 := Tryz.sizeOf5
  v5 := Tryz.zeroValue5
  t9 := Tryz.underlying9
  a9 := Tryz.isAgg9
  z9 := Tryz.sizeOf9
  v9 := Tryz.zeroValue9
  t22 := Tryz.underlying128
  a22 := Tryz.isAgg128
  z22 := Tryz.sizeOf128
  v22 := Tryz.zeroValue128
  t25 := Tryz.underlying196
  a25 := Tryz.isAgg196
  z25 := Tryz.sizeOf196
  v25 := Tryz.zeroValue196
  t39 := Tryz.underlying217
  a39 := Tryz.isAgg217
  z39 := Tryz.sizeOf217
  v39 := Tryz.zeroValue217
  t45 := Tryz.underlying261
  a45 := Tryz.isAgg261
  z45 := Tryz.sizeOf261
  v45 := Tryz.zeroValue261
  t46 := Tryz.underlying262
  a46 := Tryz.isAgg262
  z46 := Tryz.sizeOf262
  v46 := Tryz.zeroValue262
  t50 := Tryz.underlying205
  a50 := Tryz.isAgg205
  z50 := Tryz.sizeOf205
  v50 := Tryz.zeroValue205
  t53 := Tryz.underlying268
  a53 := Tryz.isAgg268
  z53 := Tryz.sizeOf268
  v53 := Tryz.zeroValue268
  t55 := Tryz.underlying166
  a55 := Tryz.isAgg166
  z55 := Tryz.sizeOf166
  v55 := Tryz.zeroValue166
  t66 := Tryz.underlying315
  a66 := Tryz.isAgg315
  z66 := Tryz.sizeOf315
  v66 := Tryz.zeroValue315
  t70 := Tryz.underlying319
  a70 := Tryz.isAgg319
  z70 := Tryz.sizeOf319
  v70 := Tryz.zeroValue319
  t76 := Tryz.underlying338
  a76 := Tryz.isAgg338
  z76 := Tryz.sizeOf338
  v76 := Tryz.zeroValue338
  t77 := Tryz.underlying234
  a77 := Tryz.isAgg234
  z77 := Tryz.sizeOf234
  v77 := Tryz.zeroValue234 }
end Go.Proofs
namespace Go.Proofs.YtekokogmnhlchaaGreatDoor
open Go.RowKit Go.Sort
def RB5 (w : World) (A : Option Addr) (n : Nat) (l : List UInt8) : Prop := RB w A n l ∧ (n = 0 ∨ ∃ b o cs fr, A = some ⟨b, o, none⟩ ∧ w.heap[b]? = some (.cells cs 5 fr))
section
variable {w w' : World} {A : Option Addr} {n : Nat} {l : List UInt8}
theorem RB5.keep (h : RB5 w A n l) (hm : ∀ (b : Nat) (cs : Array Value) (fr : Nat × Nat), w.heap[b]? = some (Obj.cells cs 5 fr) → w'.heap[b]? = some (Obj.cells cs 5 fr)) : RB5 w' A n l := by
  rcases h.2 with h0 | ⟨b, o, cs, fr, rfl, hb⟩
  · exact ⟨⟨h.1.1, .inl h0⟩, .inl h0⟩
  refine ⟨⟨h.1.1, ?_⟩, .inr ⟨b, o, cs, fr, rfl, hm b cs fr hb⟩⟩
  rcases h.1.2 with h0 | ⟨b', o', hA, hc⟩
  · exact .inl h0
  injection hA with hA
  injection hA with h1 h2 _
  subst h1 h2
  exact .inr ⟨b, o, rfl, fun j hj => (World.cell?_of_block (w := w) (w' := w') (a := ⟨b, o + j, none⟩) ((hm b cs fr hb).trans hb.symm)).trans (hc j hj)⟩
theorem RB5.below (h : RB5 w A n l) (hb : Below w.heap.size w w') : RB5 w' A n l := h.keep fun b cs fr hc => (hb.block b (Array.getElem?_eq_some_iff.1 hc).1).trans hc
theorem RB5.grown {row : Option Nat} (h : RB5 w A n l) (hg : w.grownBy w' row) (hr : ∀ g, row = some g → ∀ (cs : Array Value) (fr : Nat × Nat), w.heap[g]? ≠ some (Obj.cells cs 5 fr)) : RB5 w' A n l :=
  h.keep fun b cs fr hc => (hg.block b (Array.getElem?_eq_some_iff.1 hc).1 (fun e => hr b e.symm cs fr hc)).trans hc
theorem RB5.of_own {base c : Nat} (h : w.ownsRow base 5 1 (.slice A n c) n (bys l)) : RB5 w A n l := by
  refine ⟨Rd.of_own h, ?_⟩
  rcases h.2 with ⟨_, h0⟩ | ⟨g, cap, cur, hv, hb, hh, _⟩
  · exact .inl h0
  exact .inr ⟨g, 0, _, _, by injection hv, hh⟩
theorem RB5.nil (w : World) (A : Option Addr) : RB5 w A 0 [] := ⟨Rd.nil w 1 A, .inl rfl⟩
end
theorem run_conv5 (w : World) (s : ByteArray) : ∃ A c w', (convert 9 105 (.string s)).run Tryz.prog w = .ok (.slice A s.size c) w' ∧ RB5 w' A s.size s.data.toList ∧ Below w.heap.size w w' ∧ s.size ≤ c := by
  refine ⟨some ⟨w.heap.size, 0, none⟩, grownCap w s.size 0 5, Lib.bytesWorld w 5 s, Lib.run_convert_string_bytes w 9 105 5 s Tryz.underlying9 Tryz.underlying105 Tryz.underlying5, ⟨?_, .inr ⟨_, _, _, _, rfl, Lib.bytesWorld_at_new w 5 s⟩⟩, bytes_below w 5 s, grownCap_ge w s.size 0 5⟩
  refine ⟨by rw [bys_length, ← size_len, Nat.mul_one], .inr ⟨_, _, rfl, fun j hj => ?_⟩⟩
  simp only [bys_length, ← size_len] at hj
  rw [Nat.zero_add, Lib.bytesWorld_cell w 5 s j hj, bys_get _ _ (by rw [← size_len]; exact hj)]
  simp [List.getD_eq_getElem?_getD, List.getElem?_eq_getElem (show j < s.data.toList.length by rw [← size_len]; exact hj)]
structure PR where
  key : List UInt8
  val : List UInt8
  kv : Value
  vv : Value
def prCells (sp : Int) (p : PR) : List Value := [.int .i64 sp, p.kv, p.vv]
theorem prCells_len (sp : Int) (p : PR) : (prCells sp p).length = 3 := rfl
def PrAt (w : World) (p : PR) : Prop := (∃ A n c, p.kv = .slice A n c ∧ RB5 w A n p.key ∧ n ≤ c) ∧ ∃ B m d, p.vv = .slice B m d ∧ RB5 w B m p.val
theorem PrAt.keep {w w' : World} {p : PR} (h : PrAt w p) (hm : ∀ (b : Nat) (cs : Array Value) (fr : Nat × Nat), w.heap[b]? = some (Obj.cells cs 5 fr) → w'.heap[b]? = some (Obj.cells cs 5 fr)) : PrAt w' p := by
  obtain ⟨⟨A, n, c, h1, h2, hk⟩, B, m, d, h3, h4⟩ := h
  exact ⟨⟨A, n, c, h1, h2.keep hm, hk⟩, B, m, d, h3, h4.keep hm⟩
theorem pairT : SlT Tryz.prog 128 132 3 56 := ⟨by
  obtain ⟨i, hi, hz0, hz1, hz2⟩ := info_parts (P := Tryz.prog) (e := 132) (z := .agg #[.int .i64 0, .slice none 0 0, .slice none 0 0]) (size := 3) (bytes := 56) (by kernel_rfl)
  exact ⟨i, _, Tryz.underlying128, hi, hz0, hz1, hz2, rfl, by omega⟩⟩
theorem pcmp_any (sp sq : Int) (p q : PR) (w : World) (hp : PrAt w p) (hq : PrAt w q) :
    Calls Tryz.prog 126 #[.agg (prCells sp p).toArray, .agg (prCells sq q).toArray] w fun e w' => e = .returned (.int .i64 (cmpB p.key q.key)) ∧ ∃ o1 o2, w' = (w.alloc o1).alloc o2 := by
  obtain ⟨⟨A, n, c, h1, h2, _⟩, B0, m0, d0, h3, _⟩ := hp
  obtain ⟨⟨B, m, d, h4, h5, _⟩, B1, m1, d1, h6, _⟩ := hq
  obtain ⟨pk, pv, pkv, pvv⟩ := p
  obtain ⟨qk, qv, qkv, qvv⟩ := q
  simp only at h1 h2 h3 h4 h5 h6
  subst h1 h3 h4 h6
  have e1 : (prCells sp ⟨pk, pv, .slice A n c, .slice B0 m0 d0⟩).toArray = #[.int .i64 sp, .slice A n c, .slice B0 m0 d0] := rfl
  have e2 : (prCells sq ⟨qk, qv, .slice B m d, .slice B1 m1 d1⟩).toArray = #[.int .i64 sq, .slice B m d, .slice B1 m1 d1] := rfl
  rw [e1, e2]
  have hb1 := (Below.refl w.heap.size w).alloc (Nat.le_refl _) (.cells #[.int .i64 sp, .slice A n c, .slice B0 m0 d0] 132)
  have hb2 := hb1.alloc hb1.size (.cells #[.int .i64 sq, .slice B m d, .slice B1 m1 d1] 132)
  have c1 := (C.new w #[.int .i64 sp, .slice A n c, .slice B0 m0 d0] 132 1 (v := .slice A n c) rfl).alloc (.cells #[.int .i64 sq, .slice B m d, .slice B1 m1 d1] 132)
  have c2 := C.new (w.alloc (.cells #[.int .i64 sp, .slice A n c, .slice B0 m0 d0] 132)) #[.int .i64 sq, .slice B m d, .slice B1 m1 d1] 132 1 (v := .slice B m d) rfl
  rw [show (w.alloc (.cells #[.int .i64 sp, .slice A n c, .slice B0 m0 d0] 132)).heap.size = w.heap.size + 1 by simp] at c2
  have r1 := h2.1.below hb2
  have r2 := h5.1.below hb2
  have Hb2 := hide hb2
  clear h2 h5 hb1 hb2 e1 e2
  go_enter Tryz.func126, Tryz.ntmps126
  go_wp2_with fail
  refine (bcompare_any _ _ _ _ _ _ _ _ _ r1 r2).mono ?_
  rintro e w' ⟨rfl, rfl⟩
  go_wp2
  go_ret
  exact ⟨rfl, _, _, rfl⟩
section
variable {α : Type} [Inhabited α]
theorem sortK_grown (enc : α → List Value) (k : Nat) (w : World) (blk off n : Nat) (d : Array α) (os : Array Obj) : w.grownBy (sortWorldK enc k w blk off n d os) (some blk) := by
  refine ⟨rfl, rfl, rfl, ?_, fun j hj hne => ?_⟩
  · exact size_sortWorldK_c enc k w blk off n d os
  unfold sortWorldK
  rw [heap_grow_old _ _ (by simpa [putRowK, putRow, mapBlock, Sort.ahead] using hj)]
  have : blk ≠ j := fun e => hne (by rw [e])
  simp [putRowK, putRow, mapBlock, Sort.ahead, Array.getElem?_modify, this]
end
theorem cmpB_swo : SWO (fun a b : List UInt8 => decide (cmpB a b < 0)) := ⟨fun x => by simp [cmpB_refl], fun x y z h k => by
    simp only [decide_eq_true_eq] at h k ⊢
    exact cmpB_trans h k, fun x y z h k => by
    simp only [decide_eq_false_iff_not, Int.not_lt] at h k ⊢
    have h1 := cmpB_swap x y
    have h2 := cmpB_swap y z
    have h3 := cmpB_swap x z
    have := cmpB_le_trans (a := z) (b := y) (c := x) (by omega) (by omega)
    omega⟩
theorem heap_sortK {α : Type} [Inhabited α] (enc : α → List Value) (k : Nat) {w : World} {g n : Nat} {os : Array Obj} {cur : Array Value} {e : TypeId} {fr : Nat × Nat} (d : Array α) (hb : w.heap[g]? = some (.cells cur e fr)) :
    (sortWorldK enc k w g 0 n d os).heap[g]? = some (.cells (putCells id 0 (flatK enc k d) cur) e fr) := by
  have hg : g < w.heap.size := (Array.getElem?_eq_some_iff.1 hb).1
  unfold sortWorldK
  rw [heap_grow_old _ _ (by simpa [putRowK, putRow, mapBlock, Sort.ahead] using hg)]
  simp [putRowK, putRow, mapBlock, Sort.ahead, Array.getElem?_modify, hb, onCells]
theorem flatK_get {α : Type} [Inhabited α] (enc : α → List Value) (k : Nat) (hk : ∀ x, (enc x).length = k) (d : Array α) (t : Nat) (h : t < d.size * k) : (flatK enc k d)[t]! = (d.toList.flatMap enc)[t]'(by rw [flat_len enc k hk]; simpa using h) := by
  rw [get_flatK enc k d t h]
  have hk0 : 0 < k := Nat.pos_of_ne_zero fun e => by subst e; omega
  have hi : t / k < d.size := by rw [Nat.div_lt_iff_lt_mul hk0]; exact h
  have hj : t % k < k := Nat.mod_lt _ hk0
  have hf := flat_at enc k hk d.toList (t / k) (t % k) (by simpa using hi) hj
  have ht : t / k * k + t % k = t := by rw [Nat.mul_comm]; exact Nat.div_add_mod t k
  rw [ht] at hf
  rw [getElem!_pos d (t / k) hi]
  have hl : t % k < (enc d[t / k]).length := by rw [hk]; exact hj
  rw [getElem!_pos (enc d[t / k]) (t % k) hl]
  have h1 := List.getElem?_eq_getElem (l := d.toList.flatMap enc) (i := t) (by rw [flat_len enc k hk]; simpa using h)
  rw [h1] at hf
  simp only [Array.getElem_toList] at hf
  rw [List.getElem?_eq_getElem hl] at hf
  exact (Option.some.inj hf).symm
theorem eg126 (args : Array Value) (w : World) : (callFunc 126 args).run Tryz.prog w = .ok (.enter 126 args) w := enters_of Tryz.func126 (by kernel_rfl) rfl args w
set_option maxHeartbeats 1600000 in
theorem psort_any (sp : Int) (base : Nat) (A : Option Addr) (n c : Nat) (l : List PR) (w : World) (hl : l.length = n) (hp : ∀ p ∈ l, PrAt w p) (hown : w.ownsRow base 132 3 (.slice A n c) n (l.flatMap (prCells sp))) (hn : n < 1000000) :
    Calls Tryz.prog 125 #[.slice A n c, .func (.func 126) #[] #[]] w fun e w' => e = .returned (.tuple #[]) ∧ ∃ l' : List PR, l'.Perm l ∧ l'.Pairwise (fun a b => ¬ cmpB b.key a.key < 0) ∧ w'.ownsRow base 132 3 (.slice A n c) n (l'.flatMap (prCells sp)) ∧ w.grownBy w' (Value.slice A n c).ownBlock := by
  rcases hown.2 with ⟨h0, hn0⟩ | ⟨g, cap, cur, hv, hg, hh, h1, h2, h3, h4⟩
  · subst hn0
    injection h0 with hA _ hc
    subst hA hc
    refine (AnyF.slices_SortFunc_none Tryz.sortPair none 0 (.func (.func 126) #[] #[]) w).mono ?_
    rintro e w' ⟨rfl, rfl⟩
    have : l = [] := List.eq_nil_of_length_eq_zero hl
    subst this
    exact ⟨rfl, [], List.Perm.refl _, List.Pairwise.nil, hown, World.grownBy.refl _ _⟩
  injection hv with hA _ hc
  subst hA hc
  letI : Inhabited {p : PR // PrAt w p} := ⟨⟨⟨[], [], .slice none 0 0, .slice none 0 0⟩, ⟨none, 0, 0, rfl, RB5.nil w none, Nat.le_refl _⟩, none, 0, 0, rfl, RB5.nil w none⟩⟩
  obtain ⟨enc, henc⟩ : ∃ enc : {p : PR // PrAt w p} → List Value, enc = fun p => prCells sp p.1 := ⟨_, rfl⟩
  have hk : ∀ x, (enc x).length = 3 := fun x => by rw [henc]; rfl
  have hone : ∀ x, ∀ v ∈ enc x, v.oneCell' = true := by
    intro x v hv
    obtain ⟨p, ⟨A1, n1, c1, e1, _⟩, B1, m1, d1, e2, _⟩ := x
    rw [henc] at hv
    simp only [prCells, e1, e2, List.mem_cons, List.not_mem_nil, or_false] at hv
    rcases hv with rfl | rfl | rfl <;> rfl
  obtain ⟨d, hd⟩ : ∃ d : Array {p : PR // PrAt w p}, d = (l.pmap Subtype.mk hp).toArray := ⟨_, rfl⟩
  have hdl : d.toList.map Subtype.val = l := by rw [hd]; simp [List.map_pmap]
  have hds : d.size = n := by rw [← hl, ← hdl]; simp
  have hfl : ∀ (d : Array {p : PR // PrAt w p}), d.toList.flatMap enc = (d.toList.map Subtype.val).flatMap (prCells sp) := fun d => by
    rw [henc, List.flatMap_map]
  have hH : HoldsK enc 3 w g 0 d := by
    intro j hj
    rw [size_flatK] at hj
    have hget := flatK_get enc 3 hk d j hj
    have hjl : j < (l.flatMap (prCells sp)).length := by rw [hown.1]; omega
    have hx2 := hown.cells (g := g) rfl j _ (List.getElem?_eq_getElem hjl)
    rw [add_plain] at hx2
    refine ⟨?_, by simp [World.frozen?, hh]⟩
    rw [hx2, hget]
    congr 1
    simp only [id]
    congr 1
    rw [hfl, hdl]
  have hcmp : CmpLays Tryz.prog 126 #[] enc 3 (fun a b => cmpB a.1.key b.1.key) g 0 d.size w := by
    intro m os dk hs x y
    have hgr := sortK_grown enc 3 w g 0 m dk os
    have hkp : ∀ (b : Nat) (cs : Array Value) (fr : Nat × Nat), w.heap[b]? = some (Obj.cells cs 5 fr) → (sortWorldK enc 3 w g 0 m dk os).heap[b]? = some (Obj.cells cs 5 fr) := fun b cs fr hc =>
      (hgr.block b (Array.getElem?_eq_some_iff.1 hc).1 (fun e => by
        injection e with e
        subst e
        rw [hh] at hc
        injection hc with hc
        injection hc with _ hc _
        cases hc)).trans hc
    have := pcmp_any sp sp x.1 y.1 (sortWorldK enc 3 w g 0 m dk os) (x.2.keep hkp) (y.2.keep hkp)
    rw [henc]
    rw [henc] at this
    refine this.mono ?_
    rintro e w' ⟨rfl, o1, o2, rfl⟩
    refine ⟨rfl, 0, #[o1] ++ #[o2], ?_⟩
    rw [alloc_eq_grow, alloc_eq_grow, grow_grow]
    rfl
  have hO : SWO (ltOf (fun a b : {p : PR // PrAt w p} => cmpB a.1.key b.1.key)) := ⟨fun x => cmpB_swo.irrefl _, fun x y z => cmpB_swo.trans _ _ _, fun x y z => cmpB_swo.ntrans _ _ _⟩
  have hglt : g < w.heap.size := (Array.getElem?_eq_some_iff.1 hh).1
  have hmain := AnyQ.slices_SortFunc Tryz.sortPair 3 Tryz.isAgg132 Tryz.sizeOf132 enc hk hone (fun a b => cmpB a.1.key b.1.key) hO 126 #[] g 0 c d w eg126 hcmp hH hglt (by omega)
  rw [hds] at hmain
  refine hmain.mono ?_
  rintro e w' ⟨rfl, d', m, os, hperm, hsort, rfl⟩
  refine ⟨rfl, d'.toList.map Subtype.val, ?_, ?_, ?_, sortK_grown enc 3 w g 0 m d' os⟩
  · have hps := hperm.1
    have h5 := hperm.2.2
    rw [Array.extract_eq_self_of_le (by omega), Array.extract_eq_self_of_le (by omega)] at h5
    rw [← hdl]
    exact h5.map _
  · rw [List.pairwise_map, List.pairwise_iff_getElem]
    intro i j hi hj hij
    simp only [Array.length_toList] at hi hj
    have hps := hperm.1
    have h5 := hsort i j (Nat.zero_le _) hij (by omega)
    rw [getElem!_pos d' i hi, getElem!_pos d' j hj] at h5
    simpa [ltOf] using h5
  have hps := hperm.1
  have hlen : ((d'.toList.map Subtype.val).flatMap (prCells sp)).length = n * 3 := by
    rw [flat_len _ 3 (prCells_len sp)]; simp; omega
  refine ⟨hlen, .inr ⟨g, c, putCells id 0 (flatK enc 3 d') cur, rfl, hg, heap_sortK enc 3 d' hh, h1, h2, by simp [putCells, h3], ?_⟩⟩
  apply List.ext_getElem?
  intro j
  by_cases hj : j < n * 3
  · rw [List.getElem?_take_of_lt hj, Array.getElem?_toList]
    have hjf : j < (flatK enc 3 d').size := by rw [size_flatK]; omega
    have hget := flatK_get enc 3 hk d' j (by omega)
    rw [List.getElem?_eq_getElem (by omega)]
    have hjc : j < cur.size := by rw [h3]; omega
    simp only [putCells, Array.getElem?_mapIdx, Array.getElem?_eq_getElem hjc, Option.map_some]
    rw [if_pos ⟨Nat.zero_le _, by omega⟩, Nat.sub_zero, hget]
    simp only [id]
    congr 1
    congr 1
    exact hfl d'
  rw [List.getElem?_take_eq_none (by omega), List.getElem?_eq_none (by omega)]
end Go.Proofs.YtekokogmnhlchaaGreatDoor
namespace Go.Proofs.YtekokogmnhlchaaGreatDoor
open Go.RowKit Go.Maps
def heldR (v : Value) : Option (DataW Value × List MemPlace) := some (.held v, [])
noncomputable def bget (L : List Chg) (sp : Int) (lo hi key : List UInt8) : Option (List UInt8) := open Classical in if inB lo hi key then getC L sp key else none
def MapIs (w : World) (D : DataW Value) (g : List UInt8 → Option (List UInt8)) : Prop := ∀ key, match g key with
  | none => ∀ z, D.atKey (.string key) z = z
  | some val => ∃ A n c, RB5 w A n val ∧ ∀ z, D.atKey (.string key) z = .held (.slice A n c)
theorem MapIs.keep {w w' : World} {D : DataW Value} {g : List UInt8 → Option (List UInt8)} (h : MapIs w D g) (hm : ∀ (b : Nat) (cs : Array Value) (fr : Nat × Nat), w.heap[b]? = some (Obj.cells cs 5 fr) → w'.heap[b]? = some (Obj.cells cs 5 fr)) : MapIs w' D g := by
  intro key
  have := h key
  cases hg : g key with
  | none => rw [hg] at this; exact this
  | some val =>
    rw [hg] at this
    obtain ⟨A, n, c, h1, h2⟩ := this
    exact ⟨A, n, c, h1.keep hm, h2⟩
theorem MapIs.below {w w' : World} {D : DataW Value} {g : List UInt8 → Option (List UInt8)} (h : MapIs w D g) (hb : Below w.heap.size w w') : MapIs w' D g := h.keep fun b cs fr hc => (hb.block b (Array.getElem?_eq_some_iff.1 hc).1).trans hc
theorem MapIs.grown {w w' : World} {D : DataW Value} {g : List UInt8 → Option (List UInt8)} {row : Option Nat} (h : MapIs w D g) (hg : w.grownBy w' row) (hr : ∀ q, row = some q → ∀ (cs : Array Value) (fr : Nat × Nat), w.heap[q]? ≠ some (Obj.cells cs 5 fr)) : MapIs w' D g :=
  h.keep fun b cs fr hc => (hg.block b (Array.getElem?_eq_some_iff.1 hc).1 (fun e => hr b e.symm cs fr hc)).trans hc
theorem str_ne {a b : List UInt8} (h : a ≠ b) : Lit.string a ≠ Lit.string b := fun e => h (by injection e)
theorem MapIs.empty (w : World) : MapIs w (.map []) fun _ => none := fun _ _ => rfl
theorem MapIs.ext {w : World} {D : DataW Value} {g g' : List UInt8 → Option (List UInt8)} (h : MapIs w D g) (he : ∀ k, g' k = g k) : MapIs w D g' := fun key => by rw [he key]; exact h key
theorem MapIs.del {w : World} {D : DataW Value} {g : List UInt8 → Option (List UInt8)} (h : MapIs w D g) (k : List UInt8) : MapIs w (D.del (.string k)) fun key => if key = k then none else g key := by
  intro key
  by_cases hk : key = k
  · subst hk
    simp only [if_true]
    intro z
    exact atKey_del_same z
  simp only [if_neg hk]
  have := h key
  cases hg : g key with
  | none =>
    rw [hg] at this
    exact fun z => (atKey_del_other (str_ne hk) z).trans (this z)
  | some val =>
    rw [hg] at this
    obtain ⟨A, n, c, h1, h2⟩ := this
    exact ⟨A, n, c, h1, fun z => (atKey_del_other (str_ne hk) z).trans (h2 z)⟩
theorem MapIs.put {w : World} {D : DataW Value} {g : List UInt8 → Option (List UInt8)} (h : MapIs w D g) (hD : IsMap D) (k val : List UInt8) {A : Option Addr} {n c : Nat} (hr : RB5 w A n val) : MapIs w (D.put (.string k) (.held (.slice A n c))) fun key => if key = k then some val else g key := by
  intro key
  by_cases hk : key = k
  · subst hk
    simp only [if_true]
    exact ⟨A, n, c, hr, fun z => atKey_put_same hD (k := .string key) (show WideAt.IsKeyLit (.string key) from trivial) _ z⟩
  simp only [if_neg hk]
  have := h key
  cases hg : g key with
  | none =>
    rw [hg] at this
    exact fun z => (atKey_put_other (str_ne hk) _ z).trans (this z)
  | some val' =>
    rw [hg] at this
    obtain ⟨A', n', c', h1, h2⟩ := this
    exact ⟨A', n', c', h1, fun z => (atKey_put_other (str_ne hk) _ z).trans (h2 z)⟩
theorem bget_snoc (L : List Chg) (c : Chg) (sp : Int) (lo hi key : List UInt8) (h : c.sp = sp) (hb : inB lo hi c.key) : bget (L ++ [c]) sp lo hi key = if key = c.key then (if c.gone then none else some c.val) else bget L sp lo hi key := by
  unfold bget
  rw [getC_snoc]
  by_cases hk : key = c.key
  · subst hk; simp [h, hb]
  have hk' : ¬ c.key = key := fun e => hk e.symm
  simp [hk, hk']
theorem bget_skip (L : List Chg) (c : Chg) (sp : Int) (lo hi key : List UInt8) (h : ¬ (c.sp = sp ∧ inB lo hi c.key)) : bget (L ++ [c]) sp lo hi key = bget L sp lo hi key := by
  unfold bget
  rw [getC_snoc]
  by_cases hk : c.sp = sp ∧ c.key = key
  · have : ¬ inB lo hi key := fun hb => h ⟨hk.1, by rw [hk.2]; exact hb⟩
    simp [this]
  rw [if_neg hk]
theorem bget_nil (sp : Int) (lo hi key : List UInt8) : bget [] sp lo hi key = none := by unfold bget; split <;> rfl
theorem keyS (l : List UInt8) (hl : l.length ≤ 1000000) : keyOf Tryz.prog 9 (.string (strB l)) = some (.string l) := by
  have := Go.WideMaps.keyOf_string_mk (P := Tryz.prog) (k := 9) (s := strB l) Tryz.underlying9 (by simp only [maxLen]; show l.length ≤ _; omega)
  rw [this]
  rfl
theorem keyS_inv {key : Value} {kl : Lit} (h : keyOf Tryz.prog 9 key = some kl) : ∃ x : ByteArray, key = .string x := by
  cases key <;> simp [keyOf, mapKey, Tryz.underlying9] at h
  exact ⟨_, rfl⟩
theorem keyS_eq {x : ByteArray} {kl : Lit} (h : keyOf Tryz.prog 9 (.string x) = some kl) : kl = .string x.data.toList := by
  simp [keyOf, mapKey, Tryz.underlying9] at h
  exact h.2.symm
theorem lawS : Keyed Tryz.prog 9 := string_keyed Tryz.underlying9
end Go.Proofs.YtekokogmnhlchaaGreatDoor
