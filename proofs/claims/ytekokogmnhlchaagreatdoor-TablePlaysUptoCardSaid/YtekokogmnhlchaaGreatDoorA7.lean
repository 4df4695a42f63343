import Derived.Test.YtekokogmnhlchaaGreatDoorA5
import Derived.Test.YtekokogmnhlchaaGreatDoorA6
import Derived.Test.YtekokogmnhlchaaGreatDoorA0
import Derived.Deep.RegionLaw
set_option linter.unusedSimpArgs false
set_option linter.unusedVariables false
set_option linter.unusedSectionVars false
namespace Go.Proofs.YtekokogmnhlchaaGreatDoor
open Go.RowKit
def RdrAt (w : World) (rb : Nat) (A : Option Addr) (n c : Nat) (p : Nat) : Prop := w.heap[rb]? = some (.cells #[.slice A n c, .int .i64 (p : Nat), .bool false] 249)
theorem RdrAt.c0 {w : World} {rb : Nat} {A : Option Addr} {n c p : Nat} (h : RdrAt w rb A n c p) : C w rb 0 (.slice A n c) := cells_of_blk h 0 rfl
theorem RdrAt.c1 {w : World} {rb : Nat} {A : Option Addr} {n c p : Nat} (h : RdrAt w rb A n c p) : C w rb 1 (.int .i64 (p : Nat)) := cells_of_blk h 1 rfl
theorem RdrAt.c2 {w : World} {rb : Nat} {A : Option Addr} {n c p : Nat} (h : RdrAt w rb A n c p) : C w rb 2 (.bool false) := cells_of_blk h 2 rfl
theorem RdrAt.fr {w : World} {rb : Nat} {A : Option Addr} {n c p : Nat} (h : RdrAt w rb A n c p) (i : Nat) : w.frozen? ⟨rb, i, none⟩ = false := by
  unfold RdrAt at h; simp [World.frozen?, h]
def Only (rb : Nat) (w w' : World) : Prop := w'.os = w.os ∧ w'.tape = w.tape ∧ w'.output = w.output ∧ w.heap.size ≤ w'.heap.size ∧ ∀ k, k < w.heap.size → k ≠ rb → w'.heap[k]? = w.heap[k]?
set_option maxHeartbeats 1600000 in
set_option maxRecDepth 1000000 in
theorem byte_ok (rb : Nat) (A : Option Addr) (n c p : Nat) (l : List UInt8) (x : Nat) (most : Nat) (w : World) (h : RdrAt w rb A n c p) (hl : RB w A n l) (hp : p < n) (hx : l[p]?.map UInt8.toNat = some x) (hm : x ≤ most) (hn : n ≤ 100000) :
    Calls Tryz.prog 174 #[.pointer (some ⟨rb, 0, none⟩), .int .i64 (most : Nat)] w fun e w' => e = .returned (.int .i64 (x : Nat)) ∧ RdrAt w' rb A n c (p + 1) ∧ Only rb w w' := by
  have H := hide h
  obtain ⟨b, o, rfl, hc⟩ := hl.at_ p hp
  have hlen := hl.len
  rw [List.getElem?_eq_getElem (by omega)] at hx
  simp only [Option.map_some, Option.some.injEq] at hx
  rw [hx] at hc
  have c0 := h.c0
  have c1 := h.c1
  have c2 := h.c2
  have f1 := h.fr 1
  have hpi : (p : Int) < (n : Int) := by omega
  have hx256 : x < 256 := by rw [← hx]; exact UInt8.toNat_lt _
  have hwx : IntKind.i64.wrap (x : Int) = x := by rw [IntKind.wrap_i64]; omega
  have hmx : ¬ ((most : Int) < (x : Int)) := by omega
  have hne : b ≠ rb := by
    intro hb
    subst hb
    have h' := hc
    have hh : w.heap[b]? = _ := h
    simp only [C, World.cell?, hh] at h'
    rcases Nat.lt_or_ge (o + p) 3 with h3 | h3
    · have : o + p = 0 ∨ o + p = 1 ∨ o + p = 2 := by omega
      rcases this with e | e | e <;> rw [e] at h' <;> simp at h'
    rw [show (#[Value.slice (some ⟨b, o, none⟩) n c, .int .i64 (p : Nat), .bool false] : Array Value)[o + p]? = none from Array.getElem?_eq_none (by simpa using h3)] at h'
    cases h'
  clear hl hx hlen
  go_enter Tryz.func174, Tryz.ntmps174
  go_wp2_with fail
  go_quiet (fail)
  go_wp2_with fail
  have d1 := World.cell?_setCell_same (w := w.drewN nq) (v := .int .i64 ((p : Int) + 1)) (a := ⟨rb, 1, none⟩) c1
  have d0 := (World.cell?_setCell_other (w := w.drewN nq) (v := .int .i64 ((p : Int) + 1)) (a := ⟨rb, 1, none⟩) (b := ⟨rb, 0, none⟩) (by simp)).trans c0
  have dc := (World.cell?_setCell_other (w := w.drewN nq) (v := .int .i64 ((p : Int) + 1)) (a := ⟨rb, 1, none⟩) (b := ⟨b, o + p, none⟩) (by intro h; injection h with h; exact absurd h.symm hne)).trans hc
  clear c0 c1 c2 hc f1
  generalize hW : (w.drewN nq).setCell ⟨rb, 1, none⟩ (.int .i64 ((p : Int) + 1)) = W at *
  go_quiet (fail)
  go_wp2
  go_ret
  refine ⟨rfl, ?_, ?_⟩
  · show W.heap[rb]? = _
    rw [← hW]
    have hh : w.heap[rb]? = _ := H.out
    have hh' : (w.drewN nq).heap[rb]? = _ := hh
    simp [World.setCell, Array.getElem?_modify]
    exact ⟨_, hh, rfl⟩
  have hs : W.heap.size = w.heap.size := by rw [← hW]; simp [World.setCell]
  have ho : W.os = w.os ∧ W.tape = w.tape ∧ W.output = w.output := by rw [← hW]; exact ⟨rfl, rfl, rfl⟩
  refine ⟨ho.1, ho.2.1, ho.2.2, Nat.le_of_eq hs.symm, fun k hk hkr => ?_⟩
  show W.heap[k]? = _
  rw [← hW]
  exact Below.heap_setCell (w.drewN nq) ⟨rb, 1, none⟩ _ k hkr
theorem RdrAt.below {w w' : World} {rb : Nat} {A : Option Addr} {n c p : Nat} (h : RdrAt w rb A n c p) (hb : Below w.heap.size w w') : RdrAt w' rb A n c p := by
  have h' : w.heap[rb]? = _ := h
  have hlt : rb < w.heap.size := by
    rcases Nat.lt_or_ge rb w.heap.size with h1 | h1
    · exact h1
    rw [Array.getElem?_eq_none h1] at h'; cases h'
  exact (hb.block rb hlt).trans h'
theorem RdrAt.lt {w : World} {rb : Nat} {A : Option Addr} {n c p : Nat} (h : RdrAt w rb A n c p) : rb < w.heap.size := h.c0.lt
theorem RdrAt.set {w : World} {rb : Nat} {A : Option Addr} {n c p : Nat} (h : RdrAt w rb A n c p) (q : Nat) : RdrAt (w.setCell ⟨rb, 1, none⟩ (.int .i64 (q : Nat))) rb A n c q := by
  have hh : w.heap[rb]? = _ := h
  show (w.setCell _ _).heap[rb]? = _
  simp [World.setCell, Array.getElem?_modify]
  exact ⟨_, hh, rfl⟩
theorem Only.of {w w1 : World} {rb : Nat} {v : Value} (hb : Below w.heap.size w w1) : Only rb w (w1.setCell ⟨rb, 1, none⟩ v) :=
  ⟨hb.os, hb.tape, hb.output, by have := hb.size; simpa [World.setCell] using this, fun k hk hkr => (Below.heap_setCell w1 ⟨rb, 1, none⟩ v k hkr).trans (hb.block k hk)⟩
theorem own_set {w : World} {base : Nat} {e : TypeId} {k n : Nat} {v : Value} {xs : List Value} (h : w.ownsRow base e k v n xs) {a : Addr} (ha : a.block < base) (u : Value) : (w.setCell a u).ownsRow base e k v n xs := by
  refine ⟨h.1, ?_⟩
  rcases h.2 with h0 | ⟨g, cap, cur, h1, h2, h3, h4⟩
  · exact .inl h0
  exact .inr ⟨g, cap, cur, h1, h2, (Below.heap_setCell w a u g (by omega)).trans h3, h4⟩
set_option maxHeartbeats 1600000 in
set_option maxRecDepth 1000000 in
theorem rname_ok (rb : Nat) (A : Option Addr) (n c p : Nat) (l : List UInt8) (x : Nat) (w : World) (h : RdrAt w rb A n c p) (hl : RB w A n l) (hp : p < n) (hx : l[p]?.map UInt8.toNat = some x) (hx8 : x ≤ 8) (hx0 : 0 < x) (hin : p + 1 + x ≤ n) (hn : n ≤ 100000) (hnc : n ≤ c) :
    Calls Tryz.prog 173 #[.pointer (some ⟨rb, 0, none⟩)] w fun e w' => e = .returned (.string (strB ((l.drop (p + 1)).take x))) ∧ RdrAt w' rb A n c (p + 1 + x) ∧ Only rb w w' := by
  have c0 := h.c0
  have c1 := h.c1
  have hrd := readBytes_small A n c l p 8 w.drew (hl.drew) x hp (by omega) hx (by omega) hx8 hin hnc hx0
  have H := hide h
  obtain ⟨S, hS⟩ : ∃ S, strB ((l.drop (p + 1)).take x) = S := ⟨_, rfl⟩
  rw [hS]
  have HS := hide hS
  clear h hl hx hS
  go_enter Tryz.func173, Tryz.ntmps173
  go_wp2_with fail
  go_region_held3 (fun w' => w'.cell? ⟨rb, 0, none⟩ = some (.slice A n c) ∧ w'.cell? ⟨rb, 1, none⟩ = some (.int .i64 (p : Nat)))
    ((first
      | (go_keep; done)
      | exact ⟨c0.below (undrewd hb1), c1.below (undrewd hb1)⟩
      | fail))
    ((first
      | (go_at_call 209; refine hrd.mono ?_; rintro e w1 ⟨A1, cc1, rfl, hown, hb1⟩)
      | fail))
  have hb := undrewd hb1
  have hR1 := H.out.below hb
  have d1 := hR1.c1
  have d2 := hR1.c2
  have f1 := hR1.fr 1
  have hset := hide (hR1.set (p + 1 + x))
  have hcv := conv_str (w := w1.setCell ⟨rb, 1, none⟩ (.int .i64 ((p : Int) + 1 + x))) (A := A1) (n := x) (l := (l.drop (p + 1)).take x) (Rd.of_own (own_set hown H.out.lt _)) cc1
  rw [HS.out] at hcv
  have Hb := hide hb
  clear hb hb1 hown hR1 hrd c0 c1
  go_wp2
  go_ret
  refine ⟨rfl, ?_, Only.of Hb.out⟩
  have := hset.out
  simpa using this
section
variable {rb : Nat} {w w' w'' : World}
theorem Only.refl (rb : Nat) (w : World) : Only rb w w := ⟨rfl, rfl, rfl, Nat.le_refl _, fun _ _ _ => rfl⟩
theorem Only.size (h : Only rb w w') : w.heap.size ≤ w'.heap.size := h.2.2.2.1
theorem Only.block (h : Only rb w w') {k : Nat} (hk : k < w.heap.size) (hr : k ≠ rb) : w'.heap[k]? = w.heap[k]? := h.2.2.2.2 k hk hr
theorem Only.trans (h : Only rb w w') (k : Only rb w' w'') : Only rb w w'' :=
  ⟨k.1.trans h.1, k.2.1.trans h.2.1, k.2.2.1.trans h.2.2.1, Nat.le_trans h.size k.size, fun i hi hr => (k.block (Nat.lt_of_lt_of_le hi h.size) hr).trans (h.block hi hr)⟩
theorem Only.undrew {n : Nat} (h : Only rb (w.drewN n) w') : Only rb w w' := ⟨h.1, h.2.1, h.2.2.1, h.2.2.2.1, h.2.2.2.2⟩
theorem Only.undrewd (h : Only rb w.drew w') : Only rb w w' := ⟨h.1, h.2.1, h.2.2.1, h.2.2.2.1, h.2.2.2.2⟩
theorem Only.of_below (h : Below w.heap.size w w') : Only rb w w' := ⟨h.os, h.tape, h.output, h.size, fun k hk _ => h.block k hk⟩
theorem Only.to_below {B : Nat} (h : Only rb w w') (hB : B ≤ rb) (hs : B ≤ w.heap.size) : Below B w w' := ⟨h.1, h.2.1, h.2.2.1, h.size, fun k hk => h.block (by omega) (by omega)⟩
theorem C.only {b o : Nat} {v : Value} (h : C w b o v) (hb : b ≠ rb) (k : Only rb w w') : C w' b o v :=
  (World.cell?_of_block (w := w) (w' := w') (a := ⟨b, o, none⟩) (k.block h.lt hb)).trans h
theorem own_only {base : Nat} {e : TypeId} {k n : Nat} {v : Value} {xs : List Value} (h : w.ownsRow base e k v n xs) (hb : rb < base) (ho : Only rb w w') : w'.ownsRow base e k v n xs := by
  refine ⟨h.1, ?_⟩
  rcases h.2 with h0 | ⟨g, cap, cur, h1, h2, h3, h4⟩
  · exact .inl h0
  exact .inr ⟨g, cap, cur, h1, h2, (ho.block (Array.getElem?_eq_some_iff.1 h3).1 (by omega)).trans h3, h4⟩
end
theorem colT : SlT Tryz.prog 22 49 3 32 := ⟨by
  obtain ⟨i, hi, hz0, hz1, hz2⟩ := info_parts (P := Tryz.prog) (e := 49) (z := .agg #[.string ⟨#[]⟩, .int .i64 0, .int .i64 0]) (size := 3) (bytes := 32) (by kernel_rfl)
  exact ⟨i, _, Tryz.underlying22, hi, hz0, hz1, hz2, rfl, by omega⟩⟩
theorem ixT : SlT Tryz.prog 23 68 2 16 := ⟨by
  obtain ⟨i, hi, hz0, hz1, hz2⟩ := info_parts (P := Tryz.prog) (e := 68) (z := .agg #[.int .i64 0, .bool false]) (size := 2) (bytes := 16) (by kernel_rfl)
  exact ⟨i, _, Tryz.underlying23, hi, hz0, hz1, hz2, rfl, by omega⟩⟩
theorem strB_back (b : ByteArray) : strB b.data.toList = b := by cases b; rfl
theorem at_byte {l r : List UInt8} {p x : Nat} (h : l.drop p = UInt8.ofNat x :: r) (hx : x < 256) : p < l.length ∧ l[p]?.map UInt8.toNat = some x ∧ l.drop (p + 1) = r := by
  have hl : p < l.length := by
    rcases Nat.lt_or_ge p l.length with h1 | h1
    · exact h1
    rw [List.drop_of_length_le h1] at h; cases h
  rw [List.drop_eq_getElem_cons hl] at h
  injection h with h1 h2
  refine ⟨hl, ?_, h2⟩
  rw [List.getElem?_eq_getElem hl, h1]
  simp; omega
theorem at_name {l r : List UInt8} {p : Nat} {b : ByteArray} (h : l.drop p = encB b ++ r) (h8 : b.size ≤ 8) : p < l.length ∧ l[p]?.map UInt8.toNat = some b.size ∧ p + 1 + b.size ≤ l.length ∧ strB ((l.drop (p + 1)).take b.size) = b ∧ l.drop (p + 1 + b.size) = r := by
  have h' : l.drop p = UInt8.ofNat b.size :: (b.data.toList ++ r) := h
  obtain ⟨h1, h2, h3⟩ := at_byte h' (by omega)
  have hs : b.data.toList.length = b.size := (size_len b).symm
  have hl := congrArg List.length h3
  simp only [List.length_drop, List.length_append, hs] at hl
  refine ⟨h1, h2, by omega, ?_, ?_⟩
  · rw [h3, ← hs, List.take_left, strB_back]
  rw [← List.drop_drop, h3, ← hs, List.drop_left]
theorem Blk.only {w w' : World} {b rb : Nat} {cs : Array Value} {t : TypeId} (h : Blk w b cs t) (hb : b ≠ rb) (ho : Only rb w w') : Blk w' b cs t := (ho.block h.lt hb).trans h
theorem RdrAt.far {w w' : World} {rb : Nat} {A : Option Addr} {n c p : Nat} {row : Option Nat} (h : RdrAt w rb A n c p) (hg : w.grownBy w' row) (hb : some rb ≠ row) : RdrAt w' rb A n c p := Blk.far (cs := #[.slice A n c, .int .i64 (p : Nat), .bool false]) (t := 249) h hg hb
theorem RdrAt.set_other {w : World} {rb : Nat} {A : Option Addr} {n c p : Nat} (h : RdrAt w rb A n c p) {a : Addr} (ha : rb ≠ a.block) (v : Value) : RdrAt (w.setCell a v) rb A n c p := Blk.set_other (cs := #[.slice A n c, .int .i64 (p : Nat), .bool false]) (t := 249) h ha v
def SchO (base : Nat) (w : World) (s : Sch) (v : Value) : Prop := ∃ A c B d, v = .agg #[.string s.name, .slice A s.cols.length c, .slice B s.ixs.length d] ∧ s.cols.length ≤ c ∧ s.ixs.length ≤ d ∧ w.ownsRow base 49 3 (.slice A s.cols.length c) s.cols.length (s.cols.flatMap Col.cells) ∧ w.ownsRow base 68 2 (.slice B s.ixs.length d) s.ixs.length (s.ixs.flatMap Ix.cells)
theorem SchO.v {base : Nat} {w : World} {s : Sch} {v : Value} (h : SchO base w s v) : SchV w s v := by
  obtain ⟨A, c, B, d, e, h1, h2, h3, h4⟩ := h
  exact ⟨A, c, B, d, e, h1, h2, Rd.of_own h3, Rd.of_own h4⟩
theorem SchO.below {base : Nat} {w w' : World} {s : Sch} {v : Value} (h : SchO base w s v) (hb : Below w.heap.size w w') : SchO base w' s v := by
  obtain ⟨A, c, B, d, e, h1, h2, h3, h4⟩ := h
  exact ⟨A, c, B, d, e, h1, h2, own_below h3 hb, own_below h4 hb⟩
theorem SchO.set {base : Nat} {w : World} {s : Sch} {v : Value} (h : SchO base w s v) {a : Addr} (ha : a.block < base) (u : Value) : SchO base (w.setCell a u) s v := by
  obtain ⟨A, c, B, d, e, h1, h2, h3, h4⟩ := h
  exact ⟨A, c, B, d, e, h1, h2, own_set h3 ha u, own_set h4 ha u⟩
theorem SchO.drew {base : Nat} {w : World} {s : Sch} {v : Value} (h : SchO base w s v) : SchO base w.drew s v := h
theorem apart {u v : Value} {N : Nat} (h : ∀ g, v.ownBlock = some g → g < N) (k : ∀ g, u.ownBlock = some g → N ≤ g) : v.ownBlock = none ∨ v.ownBlock ≠ u.ownBlock := by
  cases hv : v.ownBlock with
  | none => exact .inl rfl
  | some g =>
    refine .inr fun he => ?_
    have h1 := h g hv
    have h2 := k g he.symm
    omega
set_option maxHeartbeats 2000000 in
set_option maxRecDepth 1000000 in
theorem decode_ok (s : Sch) (A : Option Addr) (n c : Nat) (w : World) (h : RB w A n (encS s)) (hr : rightS s = true) (hnc : n ≤ c) (hn : n ≤ 100000) :
    Calls Tryz.prog 113 #[.slice A n c] w fun e w' => ∃ sv, e = .returned (.tuple #[sv, .int .i64 0]) ∧ SchO w.heap.size w' s sv ∧ Below w.heap.size w w' := by
  have hf := right_facts hr
  have hs := right_small hr
  have hlen := h.len
  obtain ⟨nm, cols, ixs⟩ := s
  obtain ⟨f1, f2, f3, f4, f5, f6⟩ := hf
  simp only at *
  obtain ⟨l, hl⟩ : ∃ l, encS ⟨nm, cols, ixs⟩ = l := ⟨_, rfl⟩
  obtain ⟨cn, hcn⟩ : ∃ m, cols.length = m := ⟨_, rfl⟩
  obtain ⟨xn, hxn⟩ : ∃ m, ixs.length = m := ⟨_, rfl⟩
  obtain ⟨tl, htl⟩ : ∃ tl, UInt8.ofNat xn :: ixs.flatMap encX = tl := ⟨_, rfl⟩
  have hl0 : l.drop 0 = encB nm ++ (UInt8.ofNat cn :: (cols.flatMap encC ++ tl)) := by
    rw [← hl, encS, ← htl, hcn, hxn]; simp
  rw [hl] at h hlen
  rw [hcn] at f2 f3 f6
  rw [hxn] at f4
  have hnsz := name_size f1
  obtain ⟨n1, n2, n3, n4, n5⟩ := at_name hl0 hnsz.2
  obtain ⟨b1, b2, b3⟩ := at_byte n5 (by omega)
  have HS : Hid (∀ W, ∀ sv, SchV W ⟨nm, cols, ixs⟩ sv → Calls Tryz.prog 107 #[sv] W fun e w' => e = .returned (.int .i64 0) ∧ Below W.heap.size W w') := hide (fun W sv hv => by
    have := rightS_any ⟨nm, cols, ixs⟩ sv W hv hs
    rw [hr] at this
    exact this)
  have HL := hide h
  have F5 := hide f5
  have F6 := hide f6
  have Hcn := hide hcn
  have Hxn := hide hxn
  have Hlen := hide hlen
  have Hb3 := hide b3
  have Htl := hide htl
  have hres := Blk.new w #[.string ⟨#[]⟩, .slice none 0 0, .slice none 0 0] 25
  have hres1 := hres.alloc (.cells #[.slice A n c, .int .i64 0, .bool false] 249)
  have hrd0 : RdrAt ((w.alloc (.cells #[.string ⟨#[]⟩, .slice none 0 0, .slice none 0 0] 25)).alloc (.cells #[.slice A n c, .int .i64 0, .bool false] 249)) (w.heap.size + 1) A n c 0 := by
    have := Blk.new (w.alloc (.cells #[.string ⟨#[]⟩, .slice none 0 0, .slice none 0 0] 25)) #[.slice A n c, .int .i64 0, .bool false] 249
    rw [show (w.alloc (.cells #[.string ⟨#[]⟩, .slice none 0 0, .slice none 0 0] 25)).heap.size = w.heap.size + 1 by simp] at this
    exact this
  have hB0 : Below w.heap.size w ((w.alloc (.cells #[.string ⟨#[]⟩, .slice none 0 0, .slice none 0 0] 25)).alloc (.cells #[.slice A n c, .int .i64 0, .bool false] 249)) := ((Below.refl _ _).alloc (Nat.le_refl _) _).alloc (by simp) _
  have hsz0 : ((w.alloc (.cells #[.string ⟨#[]⟩, .slice none 0 0, .slice none 0 0] 25)).alloc (.cells #[.slice A n c, .int .i64 0, .bool false] 249)).heap.size = w.heap.size + 2 := by simp
  have HN4 := hide n4
  have hp0 : 0 + 1 + nm.size + 1 ≤ n := by omega
  have hlen' := h.len
  clear hres hr hs hl hl0 f1 f5 f6 hcn hxn hlen htl n4 n5 b3
  go_enter Tryz.func113, Tryz.ntmps113
  go_wp2_with fail
  have hbn := rname_ok (w.heap.size + 1) A n c 0 l nm.size _ hrd0 (h.below hB0) (by omega) n2 (by omega) (by omega) (by omega) hn hnc
  rw [HN4.out] at hbn
  refine hbn.mono ?_
  rintro e W1 ⟨rfl, hrd1, ho1⟩
  have hrs1 := hres1.only (by omega) ho1
  have hB1 : Below w.heap.size w W1 := hB0.trans (ho1.to_below (by omega) (by omega))
  have hsz1 : w.heap.size + 2 ≤ W1.heap.size := by have := ho1.size; omega
  clear hbn hrd0 ho1 hres1 hB0 hsz0 n1 n2
  obtain ⟨rb, hrb⟩ : ∃ rb, w.heap.size + 1 = rb := ⟨_, rfl⟩
  have hrbl : w.heap.size < rb := by omega
  have hrbz : rb < W1.heap.size := by omega
  rw [hrb] at hrd1 ⊢
  clear hrb
  go_wp2_with fail
  have hA1 := (Below.refl W1.heap.size W1).alloc (Nat.le_refl _) (.cells #[.string nm, .slice none 0 0, .slice none 0 0] 25)
  have hrd2 := hrd1.below hA1
  have hT2 := Blk.new W1 #[.string nm, .slice none 0 0, .slice none 0 0] 25
  have hrs2 := hrs1.below hA1
  have hB2 := below_then hB1 (by omega) hA1
  have hsz2 : W1.heap.size < (W1.alloc (.cells #[.string nm, .slice none 0 0, .slice none 0 0] 25)).heap.size := by simp
  obtain ⟨tb, htb⟩ : ∃ tb, W1.heap.size = tb := ⟨_, rfl⟩
  rw [htb] at hrbz hT2 hsz2 ⊢
  clear htb hA1 hrd1 hrs1 hB1 hsz1
  generalize W1.alloc (.cells #[.string nm, .slice none 0 0, .slice none 0 0] 25) = W2 at *
  have hbt : Calls Tryz.prog 174 #[.pointer (some ⟨rb, 0, none⟩), .int .i64 3] W2 _ := byte_ok rb A n c (0 + 1 + nm.size) l cn 3 W2 hrd2 (HL.out.below hB2) (by have := Hlen.out; omega) b2 f3 hn
  refine hbt.mono ?_
  rintro e W3 ⟨rfl, hrd3, ho3⟩
  have hT3 := hT2.only (by omega) ho3
  have hrs3 := hrs2.only (by omega) ho3
  have hB3 := hB2.trans (ho3.to_below (by omega) (by omega))
  have hsz3 : tb < W3.heap.size := Nat.lt_of_lt_of_le hsz2 ho3.size
  have Hrd3 := hide hrd3
  have HT3 := hide hT3
  have Hrs3 := hide hrs3
  have HB3 := hide hB3
  clear hrd2 hT2 hrs2 hB2 hsz2 ho3 hrd3 hT3 hrs3 hB3 b1 b2 hbt
  go_wp2_with fail
  go_loopw [14] (fun i wr => ∃ (k p : Nat) (B : Option Addr) (d : Nat), k ≤ cn ∧ i = .int .i64 k ∧ k ≤ d ∧ p ≤ n ∧ Hid (RdrAt wr rb A n c p) ∧ Hid (l.drop p = (cols.drop k).flatMap encC ++ tl) ∧ Hid (Blk wr tb #[.string nm, .slice B k d, .slice none 0 0] 25) ∧ Hid (Blk wr w.heap.size #[.string ⟨#[]⟩, .slice none 0 0, .slice none 0 0] 25) ∧ Hid (wr.ownsRow (tb + 1) 49 3 (.slice B k d) k ((cols.take k).flatMap Col.cells)) ∧ Hid (Below w.heap.size w wr) ∧ tb < wr.heap.size) (fun i _ => cn - (intOf i).toNat)
  case atStart => exact ⟨0, 0 + 1 + nm.size + 1, none, 0, Nat.zero_le _, rfl, Nat.zero_le _, hp0, Hrd3, by simpa using Hb3, HT3, Hrs3, hide (by simpa using World.ownsRow_nil W3 (tb + 1) 49 3), HB3, hsz3⟩
  case round =>
    obtain ⟨k, p, B, d, hk, rfl, hkd, hpn, HR, HD, HT, HRS, HO, HB, hsz⟩ := hrel
    by_cases hlt : k < cn
    · have hkc : k < cols.length := by have := Hcn.out; omega
      obtain ⟨x, hx⟩ : ∃ x, cols[k] = x := ⟨_, rfl⟩
      have hm : x ∈ cols := by rw [← hx]; exact List.getElem_mem _
      have hdr : cols.drop k = x :: cols.drop (k + 1) := by rw [← hx]; exact List.drop_eq_getElem_cons hkc
      have htk : (cols.take (k + 1)).flatMap Col.cells = (cols.take k).flatMap Col.cells ++ x.cells := by
        rw [List.take_succ_eq_append_getElem hkc, hx]; simp
      have hxf := colB_facts (F5.out x hm)
      obtain ⟨s, ck, cm⟩ := x
      obtain ⟨g1, g2, g3, g4, g5⟩ := hxf
      simp only at g1 g2 g3 g4 g5
      obtain ⟨ckn, rfl⟩ := Int.eq_ofNat_of_zero_le (show 0 ≤ ck by omega)
      obtain ⟨cmn, rfl⟩ := Int.eq_ofNat_of_zero_le g4
      have hss := name_size g1
      have hd : l.drop p = encB s ++ (UInt8.ofNat ckn :: UInt8.ofNat cmn :: ((cols.drop (k + 1)).flatMap encC ++ tl)) := by
        rw [HD.out, hdr]; simp [encC]
      obtain ⟨a1, a2, a3, a4, a5⟩ := at_name hd hss.2
      obtain ⟨b1, b2, b3⟩ := at_byte a5 (by omega)
      obtain ⟨d1, d2, d3⟩ := at_byte b3 (by omega)
      have hlen := Hlen.out
      have hN : Calls Tryz.prog 173 #[.pointer (some ⟨rb, 0, none⟩)] wr.drew _ := rname_ok rb A n c p l s.size wr.drew HR.out ((HL.out.below HB.out).drew) (by omega) a2 (by omega) (by omega) (by omega) hn hnc
      rw [a4] at hN
      have HN := hide hN
      have HK1 : Hid (∀ W, RdrAt W rb A n c (p + 1 + s.size) → RB W A n l → Calls Tryz.prog 174 #[.pointer (some ⟨rb, 0, none⟩), .int .i64 3] W fun e w' => e = .returned (.int .i64 (ckn : Nat)) ∧ RdrAt w' rb A n c (p + 1 + s.size + 1) ∧ Only rb W w') := hide fun W hR hL => byte_ok rb A n c (p + 1 + s.size) l ckn 3 W hR hL (by omega) b2 (by omega) hn
      have HK2 : Hid (∀ W, RdrAt W rb A n c (p + 1 + s.size + 1) → RB W A n l → Calls Tryz.prog 174 #[.pointer (some ⟨rb, 0, none⟩), .int .i64 8] W fun e w' => e = .returned (.int .i64 (cmn : Nat)) ∧ RdrAt w' rb A n c (p + 1 + s.size + 1 + 1) ∧ Only rb W w') := hide fun W hR hL => byte_ok rb A n c (p + 1 + s.size + 1) l cmn 8 W hR hL (by omega) d2 (by omega) hn
      have HS1 : Hid (∀ W, Only rb wr W → RB W A n l ∧ Blk W tb #[.string nm, .slice B k d, .slice none 0 0] 25 ∧ Blk W w.heap.size #[.string ⟨#[]⟩, .slice none 0 0, .slice none 0 0] 25 ∧ W.ownsRow (tb + 1) 49 3 (.slice B k d) k ((cols.take k).flatMap Col.cells) ∧ Below w.heap.size w W ∧ tb + 1 ≤ W.heap.size) := hide fun W ho =>
        have hb := HB.out.trans (ho.to_below (by omega) HB.out.size)
        ⟨HL.out.below hb, HT.out.only (by omega) ho, HRS.out.only (by omega) ho, own_only HO.out (by omega) ho, hb, Nat.le_trans hsz ho.size⟩
      have Htk := hide htk
      have Hd3 := hide d3
      have q1 := HT.out.c 1 (v := .slice B k d) rfl
      have q2 := HT.out.fr 1
      have hpn3 : p + 1 + s.size + 1 + 1 ≤ n := by omega
      clear hx hm hdr htk g1 hd a1 a2 a3 a4 a5 b1 b2 b3 d1 d2 d3 hN hkc HD HR HT HRS HO HB hlen
      go_wp2_with fail
      go_region_law
        ((first
          | (refine step_app (base := tb + 1) (news := [.string s, .int .i64 ckn, .int .i64 cmn]) colT (by rfl) (by rfl) (hO3.alloc (.cells #[.string s, .int .i64 ckn, .int .i64 cmn] 49)) (by rfl) (Rd.of_own (World.ownsRow_lit (base := 0) w3 #[.string s, .int .i64 ckn, .int .i64 cmn] 1 (Nat.zero_le _) (by decide) rfl)) (by rfl) (by simp [Value.oneCell']) (by omega) (by omega) (by simp; omega) ?_; intro A5 c5 w5 hown5 hb5 hg5 hat5; have hT5 := (hT3.alloc (.cells #[.string s, .int .i64 ckn, .int .i64 cmn] 49)).far hg5 (own_out hO3 (by omega)); have r1 := hT5.c 1 (v := .slice B k d) rfl; have r2 := hT5.fr 1)
          | (refine step_call (f := 173) (vs := [.pointer (some ⟨rb, 0, none⟩)]) (R := fun e w' => e = .returned (.string s) ∧ RdrAt w' rb A n c (p + 1 + s.size) ∧ Only rb wr.drew w') (by rfl) (by rfl) ?_ (by simp [go_sem]) ?_ ?_; rfl; exact HN.out; rintro e w1 ⟨rfl, hR1, ho1⟩; refine ⟨_, rfl, ?_⟩; have ho1 := ho1.undrewd; obtain ⟨hl1, hT1, _, _, _, _⟩ := HS1.out w1 ho1; clear q1 q2; have q1 := hT1.c 1 (v := .slice B k d) rfl; have q2 := hT1.fr 1)
          | (refine step_call (f := 174) (vs := [.pointer (some ⟨rb, 0, none⟩), .int .i64 3]) (R := fun e w' => e = .returned (.int .i64 (ckn : Nat)) ∧ RdrAt w' rb A n c (p + 1 + s.size + 1) ∧ Only rb w1 w') (by rfl) (by rfl) ?_ (by simp [go_sem]) ?_ ?_; rfl; exact HK1.out w1 hR1 hl1; rintro e w2 ⟨rfl, hR2, ho2'⟩; refine ⟨_, rfl, ?_⟩; have ho2 := ho1.trans ho2'; obtain ⟨hl2, hT2, _, _, _, _⟩ := HS1.out w2 ho2; clear q1 q2; have q1 := hT2.c 1 (v := .slice B k d) rfl; have q2 := hT2.fr 1)
          | (refine step_call (f := 174) (vs := [.pointer (some ⟨rb, 0, none⟩), .int .i64 8]) (R := fun e w' => e = .returned (.int .i64 (cmn : Nat)) ∧ RdrAt w' rb A n c (p + 1 + s.size + 1 + 1) ∧ Only rb w2 w') (by rfl) (by rfl) ?_ (by simp [go_sem]) ?_ ?_; rfl; exact HK2.out w2 hR2 hl2; rintro e w3 ⟨rfl, hR3, ho3'⟩; refine ⟨_, rfl, ?_⟩; have ho3 := ho2.trans ho3'; obtain ⟨hl3, hT3, hrs3, hO3, hB3, hsz3⟩ := HS1.out w3 ho3; clear q1 q2; have q1 := hT3.c 1 (v := .slice B k d) rfl; have q3 := (hT3.alloc (.cells #[.string s, .int .i64 ckn, .int .i64 cmn] 49)).c 1 (v := .slice B k d) rfl)
          | fail))
      all_goals
        have hal := (Below.refl w3.heap.size w3).alloc (Nat.le_refl _) (.cells #[.string s, .int .i64 ckn, .int .i64 cmn] 49)
        have hbT : Below w.heap.size w (w5.setCell ⟨tb, 1, none⟩ (.slice A5 (k + 1) c5)) := (((below_then hB3 hB3.size hal).trans (hb5.mono (by omega))).setCell (p := ⟨tb, 1, none⟩) (by simp; omega) _)
        have hT6 := hT5.set 1 (.slice A5 (k + 1) c5)
        have hR6 := ((hR3.below hal).far hg5 (own_out hO3 (by omega))).set_other (a := ⟨tb, 1, none⟩) (by simp; omega) (.slice A5 (k + 1) c5)
        have hS6 := ((hrs3.below hal).far hg5 (own_out hO3 (by omega))).set_other (a := ⟨tb, 1, none⟩) (by simp; omega) (.slice A5 (k + 1) c5)
        have hO6 := own_set hown5 (a := ⟨tb, 1, none⟩) (by simp) (.slice A5 (k + 1) c5)
        have hkc5 : k + 1 ≤ c5 := by
          obtain ⟨_, _, hv, h1, _⟩ := own_form hown5
          injection hv with _ _ hv
          omega
        have hz6 : tb < (w5.setCell ⟨tb, 1, none⟩ (.slice A5 (k + 1) c5)).heap.size := hT6.lt
        have HX1 := hide hbT
        have HX2 := hide hT6
        have HX3 := hide hR6
        have HX4 := hide hS6
        have HX5 := hide hO6
        clear hal hbT hT6 hR6 hS6 hO6 hT5 r1 r2 hown5 hb5 hg5 hat5 hT3 hrs3 hO3 hB3 q1 q3 hR3 ho3 ho3'
        (try go_wp2_with fail)
        go_roundw
        case rel => exact ⟨k + 1, p + 1 + s.size + 1 + 1, A5, c5, hlt, by go_num, hkc5, hpn3, HX3, Hd3, HX2, HX4, hide (by rw [Htk.out]; exact HX5.out), HX1, hz6⟩
        case measure => simp [intOf]; omega
    have hke : cn = k := by omega
    subst hke
    have hdr : cols.drop cn = [] := List.drop_of_length_le (by have := Hcn.out; omega)
    have htk : (cols.take cn).flatMap Col.cells = cols.flatMap Col.cells := by rw [List.take_of_length_le (by have := Hcn.out; omega)]
    have hd : l.drop p = UInt8.ofNat xn :: (ixs.flatMap encX ++ []) := by rw [HD.out, hdr, List.append_nil, Htl.out]; rfl
    have hO := HO.out
    rw [htk] at hO
    obtain ⟨b1, b2, b3⟩ := at_byte hd (by omega)
    have hlen := Hlen.out
    have hbt : Calls Tryz.prog 174 #[.pointer (some ⟨rb, 0, none⟩), .int .i64 3] wr _ := byte_ok rb A n c p l xn 3 wr HR.out (HL.out.below HB.out) (by omega) b2 f4 hn
    have Hbt := hide hbt
    have HO2 := hide hO
    have Hb3x := hide b3
    have hp1 : p + 1 ≤ n := by omega
    clear hdr htk hd hO hbt b1 b2 b3 HO HD hlen
    go_wp2_with fail
    refine Hbt.out.mono ?_
    rintro e w4 ⟨rfl, hR4, ho4⟩
    have HR4 := hide hR4
    have HT4 := hide (HT.out.only (by omega) ho4)
    have HS4 := hide (HRS.out.only (by omega) ho4)
    have HO4 := hide (own_only HO2.out (by omega) ho4)
    have HB4 := hide (HB.out.trans (ho4.to_below (by omega) HB.out.size))
    have hsz4 : tb < w4.heap.size := Nat.lt_of_lt_of_le hsz ho4.size
    clear hR4 ho4 HR HT HRS HO2 HB Hbt
    go_wp2_with fail
    obtain ⟨N4, hN4⟩ : ∃ N4, w4.heap.size = N4 := ⟨_, rfl⟩
    have htN : tb < N4 := by omega
    have HCB : Hid (∀ g, (Value.slice B cn d).ownBlock = some g → g < N4) := hide fun g hg => by have := (HO4.out.lt g hg).2; omega
    have hszN : N4 ≤ w4.heap.size := by omega
    clear hN4 hsz4
    go_loopw [31] (fun i wr => ∃ (k p : Nat) (B2 : Option Addr) (d2 : Nat), k ≤ xn ∧ i = .int .i64 k ∧ k ≤ d2 ∧ p ≤ n ∧ Hid (RdrAt wr rb A n c p) ∧ Hid (l.drop p = (ixs.drop k).flatMap encX ++ []) ∧ Hid (Blk wr tb #[.string nm, .slice B cn d, .slice B2 k d2] 25) ∧ Hid (Blk wr w.heap.size #[.string ⟨#[]⟩, .slice none 0 0, .slice none 0 0] 25) ∧ Hid (wr.ownsRow (tb + 1) 49 3 (.slice B cn d) cn (cols.flatMap Col.cells)) ∧ Hid (wr.ownsRow N4 68 2 (.slice B2 k d2) k ((ixs.take k).flatMap Ix.cells)) ∧ Hid (Below w.heap.size w wr) ∧ N4 ≤ wr.heap.size) (fun i _ => xn - (intOf i).toNat)
    case atStart => exact ⟨0, p + 1, none, 0, Nat.zero_le _, rfl, Nat.zero_le _, hp1, HR4, by simpa using Hb3x, HT4, HS4, HO4, hide (by simpa using World.ownsRow_nil w4 N4 68 2), HB4, hszN⟩
    case round =>
      clear HR4 HT4 HS4 HO4 HB4 Hb3x hszN hp1
      obtain ⟨k, p, B2, d2, hk, rfl, hkd2, hpn, HR, HD, HT, HRS, HOC, HO, HB, hsz⟩ := hrel
      by_cases hlt : k < xn
      · have hkc : k < ixs.length := by have := Hxn.out; omega
        obtain ⟨x, hx⟩ : ∃ x, ixs[k] = x := ⟨_, rfl⟩
        have hm : x ∈ ixs := by rw [← hx]; exact List.getElem_mem _
        have hdr : ixs.drop k = x :: ixs.drop (k + 1) := by rw [← hx]; exact List.drop_eq_getElem_cons hkc
        have htk : (ixs.take (k + 1)).flatMap Ix.cells = (ixs.take k).flatMap Ix.cells ++ x.cells := by
          rw [List.take_succ_eq_append_getElem hkc, hx]; simp
        have hxf := F6.out x hm
        obtain ⟨ck, cu⟩ := x
        simp only at hxf
        obtain ⟨ckn, rfl⟩ := Int.eq_ofNat_of_zero_le (show 0 ≤ ck by omega)
        obtain ⟨un, hun, hunb⟩ : ∃ un : Nat, un ≤ 1 ∧ (cond cu (1 : UInt8) 0 = UInt8.ofNat un ∧ cu = decide (un = 1)) := by
          cases cu
          · exact ⟨0, by omega, rfl, rfl⟩
          exact ⟨1, by omega, rfl, rfl⟩
        have hd : l.drop p = UInt8.ofNat ckn :: UInt8.ofNat un :: ((ixs.drop (k + 1)).flatMap encX ++ []) := by
          rw [HD.out, hdr, ← hunb.1]; simp [encX]
        obtain ⟨b1, b2, b3⟩ := at_byte hd (by omega)
        obtain ⟨d1, d2', d3⟩ := at_byte b3 (by omega)
        have hlen := Hlen.out
        have HK1 : Hid (∀ W, RdrAt W rb A n c p → RB W A n l → Calls Tryz.prog 174 #[.pointer (some ⟨rb, 0, none⟩), .int .i64 3] W fun e w' => e = .returned (.int .i64 (ckn : Nat)) ∧ RdrAt w' rb A n c (p + 1) ∧ Only rb W w') := hide fun W hR hL => byte_ok rb A n c p l ckn 3 W hR hL (by omega) b2 (by omega) hn
        have HK2 : Hid (∀ W, RdrAt W rb A n c (p + 1) → RB W A n l → Calls Tryz.prog 174 #[.pointer (some ⟨rb, 0, none⟩), .int .i64 1] W fun e w' => e = .returned (.int .i64 (un : Nat)) ∧ RdrAt w' rb A n c (p + 1 + 1) ∧ Only rb W w') := hide fun W hR hL => byte_ok rb A n c (p + 1) l un 1 W hR hL (by omega) d2' (by omega) hn
        have HS1 : Hid (∀ W, Only rb wr W → RB W A n l ∧ Blk W tb #[.string nm, .slice B cn d, .slice B2 k d2] 25 ∧ Blk W w.heap.size #[.string ⟨#[]⟩, .slice none 0 0, .slice none 0 0] 25 ∧ W.ownsRow N4 68 2 (.slice B2 k d2) k ((ixs.take k).flatMap Ix.cells) ∧ W.ownsRow (tb + 1) 49 3 (.slice B cn d) cn (cols.flatMap Col.cells) ∧ Below w.heap.size w W ∧ N4 ≤ W.heap.size) := hide fun W ho =>
          have hb := HB.out.trans (ho.to_below (by omega) HB.out.size)
          ⟨HL.out.below hb, HT.out.only (by omega) ho, HRS.out.only (by omega) ho, own_only HO.out (by omega) ho, own_only HOC.out (by omega) ho, hb, Nat.le_trans hsz ho.size⟩
        have Htk := hide htk
        have Hd3 := hide d3
        have HR0 := hide (show RdrAt wr.drew rb A n c p from HR.out)
        have HL0 := hide ((HL.out.below HB.out).drew)
        have q1 := HT.out.c 2 (v := .slice B2 k d2) rfl
        have q2 := HT.out.fr 2
        have hpn3 : p + 1 + 1 ≤ n := by omega
        have Hcu := hide hunb.2
        clear hx hm hdr htk hd b1 b2 b3 d1 d2' d3 hkc HD HR HT HRS HO HOC HB hlen hunb
        go_wp2_with fail
        go_region_law
          ((first
            | (refine step_app (base := N4) (news := [.int .i64 ckn, .bool ((un : Int) == 1)]) ixT (by rfl) (by rfl) (hO3.alloc (.cells #[.int .i64 ckn, .bool ((un : Int) == 1)] 68)) (by rfl) (Rd.of_own (World.ownsRow_lit (base := 0) w3 #[.int .i64 ckn, .bool ((un : Int) == 1)] 1 (Nat.zero_le _) (by decide) rfl)) (by rfl) (by simp [Value.oneCell']) (by omega) (by omega) (by simp; omega) ?_; intro A5 c5 w5 hown5 hb5 hg5 hat5; have hT5 := (hT3.alloc (.cells #[.int .i64 ckn, .bool ((un : Int) == 1)] 68)).far hg5 (own_out hO3 (by omega)); have r1 := hT5.c 2 (v := .slice B2 k d2) rfl; have r2 := hT5.fr 2)
            | (refine step_call (f := 174) (vs := [.pointer (some ⟨rb, 0, none⟩), .int .i64 3]) (R := fun e w' => e = .returned (.int .i64 (ckn : Nat)) ∧ RdrAt w' rb A n c (p + 1) ∧ Only rb wr.drew w') (by rfl) (by rfl) ?_ (by simp [go_sem]) ?_ ?_; rfl; exact HK1.out wr.drew HR0.out HL0.out; rintro e w2 ⟨rfl, hR2, ho2⟩; refine ⟨_, rfl, ?_⟩; have ho2 := ho2.undrewd; obtain ⟨hl2, hT2, _, _, _, _⟩ := HS1.out w2 ho2; clear q1 q2; have q1 := hT2.c 2 (v := .slice B2 k d2) rfl; have q2 := hT2.fr 2)
            | (refine step_call (f := 174) (vs := [.pointer (some ⟨rb, 0, none⟩), .int .i64 1]) (R := fun e w' => e = .returned (.int .i64 (un : Nat)) ∧ RdrAt w' rb A n c (p + 1 + 1) ∧ Only rb w2 w') (by rfl) (by rfl) ?_ (by simp [go_sem]) ?_ ?_; rfl; exact HK2.out w2 hR2 hl2; rintro e w3 ⟨rfl, hR3, ho3'⟩; refine ⟨_, rfl, ?_⟩; have ho3 := ho2.trans ho3'; obtain ⟨hl3, hT3, hrs3, hO3, hOC3, hB3, hsz3⟩ := HS1.out w3 ho3; clear q1 q2; have q1 := hT3.c 2 (v := .slice B2 k d2) rfl; have q3 := (hT3.alloc (.cells #[.int .i64 ckn, .bool ((un : Int) == 1)] 68)).c 2 (v := .slice B2 k d2) rfl)
            | fail))
        all_goals
          have hal := (Below.refl w3.heap.size w3).alloc (Nat.le_refl _) (.cells #[.int .i64 ckn, .bool ((un : Int) == 1)] 68)
          have hbT : Below w.heap.size w (w5.setCell ⟨tb, 2, none⟩ (.slice A5 (k + 1) c5)) := (((below_then hB3 hB3.size hal).trans (hb5.mono (by omega))).setCell (p := ⟨tb, 2, none⟩) (by simp; omega) _)
          have hT6 := hT5.set 2 (.slice A5 (k + 1) c5)
          have hR6 := ((hR3.below hal).far hg5 (own_out hO3 (by omega))).set_other (a := ⟨tb, 2, none⟩) (by simp; omega) (.slice A5 (k + 1) c5)
          have hS6 := ((hrs3.below hal).far hg5 (own_out hO3 (by omega))).set_other (a := ⟨tb, 2, none⟩) (by simp; omega) (.slice A5 (k + 1) c5)
          have hO6 := own_set hown5 (a := ⟨tb, 2, none⟩) (by simp; omega) (.slice A5 (k + 1) c5)
          have hneC := apart HCB.out fun g hg => (hO3.lt g hg).1
          have hC6 := own_set ((own_below hOC3 hal).kept hg5 hneC) (a := ⟨tb, 2, none⟩) (by simp) (.slice A5 (k + 1) c5)
          have hkc5 : k + 1 ≤ c5 := by
            obtain ⟨_, _, hv, h1, _⟩ := own_form hown5
            injection hv with _ _ hv
            omega
          have hz6 : N4 ≤ (w5.setCell ⟨tb, 2, none⟩ (.slice A5 (k + 1) c5)).heap.size := by
            have h1 := hb5.size
            have h2 := hal.size
            have h3 : (w5.setCell ⟨tb, 2, none⟩ (.slice A5 (k + 1) c5)).heap.size = w5.heap.size := by simp [World.setCell]
            omega
          have HX1 := hide hbT
          have HX2 := hide hT6
          have HX3 := hide hR6
          have HX4 := hide hS6
          have HX5 := hide hO6
          have HX6 := hide hC6
          clear hal hbT hT6 hR6 hS6 hO6 hC6 hneC hT5 r1 r2 hown5 hb5 hg5 hat5 hT3 hrs3 hO3 hOC3 hB3 q1 q3 hR3 ho3 ho3'
          (try go_wp2_with fail)
          go_roundw
          case rel => exact ⟨k + 1, p + 1 + 1, A5, c5, hlt, by go_num, hkc5, hpn3, HX3, Hd3, HX2, HX4, HX6, hide (by rw [Htk.out]; have h5 := HX5.out; rw [show ((un : Int) == 1) = cu by rw [Hcu.out, Bool.eq_iff_iff]; simp; omega] at h5; exact h5), HX1, hz6⟩
          case measure => simp [intOf]; omega
      have hke : xn = k := by omega
      subst hke
      have hpe : p = n := by
        have hd := HD.out
        have hix : ixs.drop xn = [] := List.drop_of_length_le (by have := Hxn.out; omega)
        rw [hix] at hd
        have hl := congrArg List.length hd
        have := Hlen.out
        simp at hl; omega
      subst hpe
      have htk : (ixs.take xn).flatMap Ix.cells = ixs.flatMap Ix.cells := by
        have hix : ixs.take xn = ixs := List.take_of_length_le (by have := Hxn.out; omega)
        rw [hix]
      have hO := HO.out
      rw [htk] at hO
      have hsv : SchV wr ⟨nm, cols, ixs⟩ (.agg #[.string nm, .slice B cn d, .slice B2 xn d2]) := by
        have e1 := Hcn.out
        have e2 := Hxn.out
        subst e1 e2
        exact ⟨B, d, B2, d2, rfl, hkd, hkd2, Rd.of_own HOC.out, Rd.of_own hO⟩
      have r1 := HR.out.c1
      have r2 := HR.out.c2
      have t0 := HT.out.c 0 (v := .string nm) rfl
      have t1 := HT.out.c 1 (v := .slice B cn d) rfl
      have t2 := HT.out.c 2 (v := .slice B2 xn d2) rfl
      have hrt := HS.out wr _ hsv
      have Hrt := hide hrt
      have HOa := hide hO
      clear htk hO HO HD hrt hsv
      go_wp2_with fail
      refine Hrt.out.mono ?_
      rintro e w6 ⟨rfl, hb6⟩
      have hT6 := HT.out.below hb6
      have hS6 := HRS.out.below hb6
      have HOb := hide (own_set (own_set (own_set (own_below HOa.out hb6) (a := ⟨w.heap.size, 0, none⟩) (by simp; omega) (.string nm)) (a := ⟨w.heap.size, 1, none⟩) (by simp; omega) (.slice B cn d)) (a := ⟨w.heap.size, 2, none⟩) (by simp; omega) (.slice B2 xn d2))
      have HOc := hide (own_set (own_set (own_set (own_below HOC.out hb6) (a := ⟨w.heap.size, 0, none⟩) (by simp; omega) (.string nm)) (a := ⟨w.heap.size, 1, none⟩) (by simp; omega) (.slice B cn d)) (a := ⟨w.heap.size, 2, none⟩) (by simp; omega) (.slice B2 xn d2))
      have HB6 := hide (below_then HB.out HB.out.size hb6)
      have t0 := hT6.c 0 (v := .string nm) rfl
      have t1 := hT6.c 1 (v := .slice B cn d) rfl
      have t2 := hT6.c 2 (v := .slice B2 xn d2) rfl
      have f0 := hS6.fr 0
      have f1 := hS6.fr 1
      have f2 := hS6.fr 2
      have s0 := hS6.c 0 (v := .string ⟨#[]⟩) rfl
      have s1 := hS6.c 1 (v := .slice none 0 0) rfl
      have s2 := hS6.c 2 (v := .slice none 0 0) rfl
      have hFin := ((hS6.set 0 (.string nm)).set 1 (.slice B cn d)).set 2 (.slice B2 xn d2)
      have e0 := hFin.c 0 (v := .string nm) rfl
      have e1 := hFin.c 1 (v := .slice B cn d) rfl
      have e2 := hFin.c 2 (v := .slice B2 xn d2) rfl
      have hbF := ((HB6.out.setCell (p := ⟨w.heap.size, 0, none⟩) (by simp) (.string nm)).setCell (p := ⟨w.heap.size, 1, none⟩) (by simp) (.slice B cn d)).setCell (p := ⟨w.heap.size, 2, none⟩) (by simp) (.slice B2 xn d2)
      have HBF := hide hbF
      clear hFin hbF hT6 hS6 hb6 HT HRS HR HB Hrt HOa HOC HB6
      go_wp2_with fail
      refine bodyPost_ret (v := .tuple #[.agg #[.string nm, .slice B cn d, .slice B2 xn d2], .int .i64 0]) (by simp [results, Tryz.results113, go_sem, e0, e1, e2]) rfl ?_
      refine ⟨_, rfl, ?_, HBF.out⟩
      have y1 := Hcn.out
      have y2 := Hxn.out
      subst y1 y2
      exact ⟨B, d, B2, d2, rfl, hkd, hkd2, own_mono HOc.out (by omega), own_mono HOb.out (by omega)⟩
end Go.Proofs.YtekokogmnhlchaaGreatDoor
