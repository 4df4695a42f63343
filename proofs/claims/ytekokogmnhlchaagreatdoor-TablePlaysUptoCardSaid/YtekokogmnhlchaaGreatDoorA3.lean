import Derived.Test.YtekokogmnhlchaaGreatDoorA2
set_option linter.unusedSimpArgs false
set_option linter.unusedVariables false
set_option linter.unusedSectionVars false
namespace Go.Proofs.YtekokogmnhlchaaGreatDoor
open Go.RowKit
theorem and127_fin : ∀ n : Fin 128, bits BinOp.and IntKind.i64 ((n.val : Nat) : Int) 127 = ((n.val : Nat) : Int) := by decide
theorem and127_i64 (n : Nat) (h : n < 128) : bits BinOp.and IntKind.i64 (n : Int) 127 = (n : Int) := and127_fin ⟨n, h⟩
theorem and127_fin8 : ∀ n : Fin 128, bits BinOp.and IntKind.u8 ((n.val : Nat) : Int) 127 = ((n.val : Nat) : Int) := by decide
theorem and127_u8 (n : Nat) (h : n < 128) : bits BinOp.and IntKind.u8 (n : Int) 127 = (n : Int) := and127_fin8 ⟨n, h⟩
theorem or0_fin : ∀ n : Fin 128, bits BinOp.or IntKind.i64 0 ((n.val : Nat) : Int) = ((n.val : Nat) : Int) := by decide
theorem or0_i64 (n : Nat) (h : n < 128) : bits BinOp.or IntKind.i64 0 (wrap64 (n : Int)) = (n : Int) := by
  rw [show wrap64 (n : Int) = n by simp only [wrap64]; omega]; exact or0_fin ⟨n, h⟩
set_option maxHeartbeats 800000 in
theorem uint_any (n : Nat) (w : World) (h1 : n < 128) :
    Calls Tryz.prog 170 #[.int .i64 n] w fun e w' => ∃ A, e = .returned (.slice A 1 1) ∧ w'.ownsRow w.heap.size 5 1 (.slice A 1 1) 1 [.int .u8 n] ∧ Below w.heap.size w w' := by
  have ha := hide (and127_i64 n h1)
  have hm : ((n : Int) % 256) = n := by omega
  have Hm := hide hm
  clear hm
  go_enter Tryz.func170, Tryz.ntmps170
  have hmk : ∀ w, (Instr.makeSlice 105 (.int .i64 1) (.int .i64 1)).run Tryz.prog w = .ok (.slice (some ⟨w.heap.size, 0, none⟩) 1 1) (w.alloc (.cells #[.int .u8 0] 5)) := fun _ => by kernel_rfl
  go_wp2_with fail
  refine wp_loop_rounds 1 ?_
  rw [rounds_succ]
  go_wp2
  refine wp_loop_rounds 2 ?_
  rw [rounds_succ]
  go_wp2
  rw [rounds_succ]
  go_wp2
  go_ret
  refine ⟨_, rfl, ?_, (Below.refl _ _).alloc (Nat.le_refl _) _⟩
  rw [ha.out, Hm.out]
  exact World.ownsRow_lit (size := 1) w #[.int .u8 n] 1 (Nat.le_refl _) (by decide) rfl
set_option maxHeartbeats 800000 in
set_option maxRecDepth 100000 in
theorem readUint_small (A : Option Addr) (n c : Nat) (l : List UInt8) (at_ : Nat) (w : World) (h : RB w A n l) (x : Nat) (hat : at_ < n) (hn : n ≤ 1000000) (hx : l[at_]?.map UInt8.toNat = some x) (hs : x < 128) :
    Calls Tryz.prog 105 #[.slice A n c, .int .i64 at_] w fun e w' => e = .returned (.tuple #[.int .i64 x, .int .i64 (at_ + 1 : Nat), .int .i64 0]) ∧ w = w' := by
  obtain ⟨b, o, rfl, hc⟩ := h.at_ at_ hat
  have hl := h.len
  rw [List.getElem?_eq_getElem (by omega)] at hx
  simp only [Option.map_some, Option.some.injEq] at hx
  rw [hx] at hc
  have Ha := hide (and127_u8 x hs)
  have Ho := hide (or0_i64 x hs)
  clear h hx hl
  go_enter Tryz.func105, Tryz.ntmps105
  go_wp2_with fail
  refine wp_loop_rounds 1 ?_
  rw [rounds_succ]
  go_wp2
  go_ret3
  refine ⟨?_, rfl⟩
  rw [Ha.out, Ho.out]
  rfl
set_option maxHeartbeats 800000 in
theorem wbytes_any (A : Option Addr) (n c : Nat) (l : List UInt8) (w : World) (h : RB w A n l) (hn : n < 128) :
    Calls Tryz.prog 108 #[.slice A n c] w fun e w' => ∃ A' c', e = .returned (.slice A' (1 + n) c') ∧ w'.ownsRow w.heap.size 5 1 (.slice A' (1 + n) c') (1 + n) (bys (UInt8.ofNat n :: l)) ∧ Below w.heap.size w w' := by
  have H := hide h
  clear h
  go_enter Tryz.func108, Tryz.ntmps108
  go_wp2_with fail
  refine (uint_any n _ hn).mono ?_
  rintro e w1 ⟨A1, rfl, hown, hb⟩
  have H1 := hide (H.out.below hb)
  go_wp2_with (at_builtin; refine wp_app u8T rfl rfl hown rfl H1.out rfl (bys_one l) (by omega) (by omega) hb.size ?_; intro A2 c2 w2 hown2 hb2 hg2 hat2)
  go_ret
  refine ⟨_, _, rfl, ?_, hb.trans hb2⟩
  have e : bys (UInt8.ofNat n :: l) = [Value.int .u8 n] ++ bys l := by
    simp only [bys, List.map_cons, ofNat_cell, List.cons_append, List.nil_append]
    rw [show ((n : Int) % 256) = n by omega]
  rw [e]
  exact hown2
set_option maxHeartbeats 800000 in
set_option maxRecDepth 100000 in
theorem readBytes_small (A : Option Addr) (n c : Nat) (l : List UInt8) (at_ : Nat) (most : Nat) (w : World) (h : RB w A n l) (x : Nat) (hat : at_ < n) (hn : n ≤ 1000000) (hx : l[at_]?.map UInt8.toNat = some x) (hs : x < 128) (hm : x ≤ most) (hin : at_ + 1 + x ≤ n) (hnc : n ≤ c) (hx0 : 0 < x) :
    Calls Tryz.prog 209 #[.slice A n c, .int .i64 at_, .int .i64 most] w fun e w' => ∃ A' c', e = .returned (.tuple #[.slice A' x c', .int .i64 (at_ + 1 + x : Nat), .int .i64 0]) ∧ w'.ownsRow w.heap.size 5 1 (.slice A' x c') x (bys ((l.drop (at_ + 1)).take x)) ∧ Below w.heap.size w w' := by
  have H := hide h
  have Hx := hide hx
  obtain ⟨b, o, rfl, hcs⟩ := h.some_ (by omega)
  have hl := h.len
  have hr : Rd w 1 (some ⟨b, o + (at_ + 1), none⟩) x (bys ((l.drop (at_ + 1)).take x)) := by
    refine ⟨by simp; omega, .inr ⟨b, o + (at_ + 1), rfl, fun j hj => ?_⟩⟩
    simp only [bys_length, List.length_take, List.length_drop] at hj
    rw [Nat.add_assoc, hcs _ (by simp; omega), bys_get _ _ (by omega), bys_get _ _ (by simp; omega)]
    simp
  have Hr := hide hr
  clear h hx hcs hl hr
  go_enter Tryz.func209, Tryz.ntmps209
  go_wp2_with fail
  refine (readUint_small _ n c l at_ w H.out x hat hn Hx.out hs).mono ?_
  rintro e w1 ⟨rfl, rfl⟩
  have he : at_ + 1 + x - (at_ + 1) = x := by omega
  go_wp2_with (at_builtin; refine wp_app u8T rfl rfl (World.ownsRow_nil w w.heap.size 5 1) rfl (he.symm ▸ Hr.out) rfl (bys_one _) (by omega) (by omega) (Nat.le_refl _) ?_; intro A2 c2 w2 hown2 hb2 hg2 hat2)
  go_ret3
  simp only [Nat.zero_add, List.nil_append, he] at hown2
  refine ⟨A2, c2, ?_, by simpa using hown2, hb2⟩
  simp only [he, Nat.zero_add]
  rfl
def low (r : Nat) : Bool := decide (97 ≤ r) && decide (r ≤ 122)
def nameRest (c : Nat) (l : List Nat) : Bool := l.all low && decide (1 ≤ c + l.length) && decide (c + l.length ≤ 8)
def nameB (s : ByteArray) : Bool := nameRest 0 (runesL s.data.toList)
theorem nameRest_cons (c r : Nat) (l : List Nat) : nameRest c (r :: l) = (low r && nameRest (c + 1) l) := by
  simp only [nameRest, List.all_cons, List.length_cons, Bool.and_assoc, show c + (l.length + 1) = c + 1 + l.length by omega]
set_option maxHeartbeats 800000 in
theorem name_any (s : ByteArray) (w : World) (hs : s.size ≤ 9223372036854775807) :
    Calls Tryz.prog 111 #[.string s] w fun e w' => e = .returned (.bool (nameB s)) ∧ Below w.heap.size w w' := by
  obtain ⟨R, hR⟩ : ∃ R, nameB s = R := ⟨_, rfl⟩
  rw [hR]
  have HR := hide hR
  clear hR
  go_enter Tryz.func111, Tryz.ntmps111
  go_wp2_with fail
  have hit := World.iter_heap w s 0
  have hbi : Below w.heap.size w (w.iter s 0) := (Below.refl _ _).alloc (Nat.le_refl _) _
  have Hit := hide hit
  clear hit
  go_loopw [3] (fun v wr => ∃ pos : Nat, pos ≤ s.size ∧ ∃ c : Nat, v = .int .i64 c ∧ c ≤ pos ∧ Hid (nameRest c (runesL (s.data.toList.drop pos)) = R ∧ wr.heap[w.heap.size]? = some (.stringIter s pos)) ∧ Below w.heap.size w wr) (fun _ wr => s.size - wr.iterPos w.heap.size)
  case atStart => exact ⟨0, Nat.zero_le _, 0, rfl, Nat.le_refl _, hide ⟨by simpa [nameB] using HR.out, Hit.out⟩, hbi⟩
  case round =>
    obtain ⟨pos, hpos, c, rfl, hc, HI, hbr⟩ := hrel
    obtain ⟨hcnt, hit⟩ := HI.out
    clear HI
    by_cases hlt : pos < s.size
    rotate_left
    · have hn := fun ty => Lib.run_next_end_at (P := Tryz.prog) wr w.heap.size s pos ty hit hlt
      clear hit
      rw [runes_end s pos (by omega)] at hcnt
      have Hc := hide hcnt
      clear hcnt
      by_cases h1 : 1 ≤ c
      · go_wp2
        go_ret
        refine ⟨ret_bool ?_, hbr⟩
        rw [← Hc.out, nameRest]
        simp [h1]
        try omega
      go_wp2
      go_ret
      refine ⟨ret_bool ?_, hbr⟩
      rw [← Hc.out, nameRest]
      simp [h1]
    have hn := fun ty => Lib.run_next_any_at (P := Tryz.prog) wr w.heap.size s pos ty hit hlt
    have hwp := decode_pos s pos
    have hwl := decode_in s pos hlt
    have hrb := decode_rune s pos
    rw [runes_at s pos hlt, nameRest_cons] at hcnt
    have Hst := hide (And.intro hcnt (Lib.iterAt_heap wr w.heap.size s pos (pos + (Utf8.decode s pos).2) hit))
    have Hp := hide (iterPos_of hit)
    have hb2 := Lib.below_iterAt hbr (Nat.le_refl _) s (pos + (Utf8.decode s pos).2)
    have Hp2 := hide (iterPos_of (unhide Hst).2)
    clear hit hcnt
    generalize hwd : (Utf8.decode s pos).2 = wd at *
    generalize hrv : (Utf8.decode s pos).1 = rv at *
    clear hwd hrv
    by_cases h1 : (rv : Int) < 97
    · go_wp2
      go_ret
      have : low rv = false := by simp [low]; omega
      have h0 := (unhide Hst).1
      rw [this, Bool.false_and] at h0
      exact ⟨ret_bool h0, hb2⟩
    by_cases h2 : 122 < (rv : Int)
    · go_wp2
      go_ret
      have : low rv = false := by simp [low]; omega
      have h0 := (unhide Hst).1
      rw [this, Bool.false_and] at h0
      exact ⟨ret_bool h0, hb2⟩
    have hl : low rv = true := by simp [low]; omega
    have Hl := hide hl
    clear hl
    go_wp2
    go_roundw
    case rel => exact ⟨pos + wd, hwl, c + 1, by go_num, by omega, hide ⟨by have h0 := (unhide Hst).1; rw [Hl.out, Bool.true_and] at h0; exact h0, (unhide Hst).2⟩, hb2⟩
    case measure => rw [Hp.out, Hp2.out]; omega
structure Col where
  name : ByteArray
  kind : Int
  max : Int
abbrev Col.val (c : Col) : Value := .agg #[.string c.name, .int .i64 c.kind, .int .i64 c.max]
def colB (c : Col) : Bool := if c.kind = 2 then nameB c.name && decide (1 ≤ c.max) && decide (c.max ≤ 8) else if c.kind = 1 ∨ c.kind = 3 then nameB c.name && decide (c.max = 0) else false
set_option maxHeartbeats 800000 in
set_option maxRecDepth 100000 in
theorem col2 (s : ByteArray) (m : Int) (w : World) (hs : s.size ≤ 9223372036854775807) :
    Calls Tryz.prog 168 #[Col.val ⟨s, 2, m⟩] w fun e w' => e = .returned (.bool (nameB s && decide (1 ≤ m) && decide (m ≤ 8))) ∧ Below w.heap.size w w' := by
  obtain ⟨x, hx⟩ : ∃ x, nameB s = x := ⟨_, rfl⟩
  rw [hx]
  have Hx := hide hx
  clear hx
  go_enter Tryz.func168, Tryz.ntmps168
  go_wp2_with fail
  refine (name_any s _ hs).mono ?_
  rintro e w1 ⟨rfl, hb⟩
  rw [Hx.out]
  have n2 := (C.new w #[.string s, .int .i64 2, .int .i64 m] 49 2 (v := .int .i64 m) rfl).below hb
  have hb := below_chain ((Below.refl _ _).alloc (Nat.le_refl _) _) hb
  cases x
  · go_wp2
    go_ret
    exact ⟨rfl, hb⟩
  by_cases h1 : 1 ≤ m
  · go_wp2
    go_ret
    exact ⟨ret_bool (by simp [h1]; try omega), hb⟩
  go_wp2
  go_ret
  exact ⟨ret_bool (by simp [h1]; try omega), hb⟩
set_option maxHeartbeats 800000 in
set_option maxRecDepth 100000 in
theorem col1 (s : ByteArray) (m : Int) (w : World) (hs : s.size ≤ 9223372036854775807) :
    Calls Tryz.prog 168 #[Col.val ⟨s, 1, m⟩] w fun e w' => e = .returned (.bool (nameB s && decide (m = 0))) ∧ Below w.heap.size w w' := by
  obtain ⟨x, hx⟩ : ∃ x, nameB s = x := ⟨_, rfl⟩
  rw [hx]
  have Hx := hide hx
  clear hx
  go_enter Tryz.func168, Tryz.ntmps168
  go_wp2_with fail
  refine (name_any s _ hs).mono ?_
  rintro e w1 ⟨rfl, hb⟩
  rw [Hx.out]
  have n2 := (C.new w #[.string s, .int .i64 1, .int .i64 m] 49 2 (v := .int .i64 m) rfl).below hb
  have hb := below_chain ((Below.refl _ _).alloc (Nat.le_refl _) _) hb
  cases x
  · go_wp2
    go_ret
    exact ⟨rfl, hb⟩
  by_cases h1 : m = 0
  · go_wp2
    go_ret
    exact ⟨ret_bool (by simp [h1]; try omega), hb⟩
  go_wp2
  go_ret
  exact ⟨ret_bool (by simp [h1]; try omega), hb⟩
set_option maxHeartbeats 800000 in
set_option maxRecDepth 100000 in
theorem col3 (s : ByteArray) (m : Int) (w : World) (hs : s.size ≤ 9223372036854775807) :
    Calls Tryz.prog 168 #[Col.val ⟨s, 3, m⟩] w fun e w' => e = .returned (.bool (nameB s && decide (m = 0))) ∧ Below w.heap.size w w' := by
  obtain ⟨x, hx⟩ : ∃ x, nameB s = x := ⟨_, rfl⟩
  rw [hx]
  have Hx := hide hx
  clear hx
  go_enter Tryz.func168, Tryz.ntmps168
  go_wp2_with fail
  refine (name_any s _ hs).mono ?_
  rintro e w1 ⟨rfl, hb⟩
  rw [Hx.out]
  have n2 := (C.new w #[.string s, .int .i64 3, .int .i64 m] 49 2 (v := .int .i64 m) rfl).below hb
  have hb := below_chain ((Below.refl _ _).alloc (Nat.le_refl _) _) hb
  cases x
  · go_wp2
    go_ret
    exact ⟨rfl, hb⟩
  by_cases h1 : m = 0
  · go_wp2
    go_ret
    exact ⟨ret_bool (by simp [h1]; try omega), hb⟩
  go_wp2
  go_ret
  exact ⟨ret_bool (by simp [h1]; try omega), hb⟩
set_option maxHeartbeats 800000 in
theorem colx (s : ByteArray) (k m : Int) (w : World) (h1 : k ≠ 1) (h2 : k ≠ 2) (h3 : k ≠ 3) :
    Calls Tryz.prog 168 #[Col.val ⟨s, k, m⟩] w fun e w' => e = .returned (.bool false) ∧ Below w.heap.size w w' := by
  go_enter Tryz.func168, Tryz.ntmps168
  have t1 : (k == 1) = false := by simpa using h1
  have t2 : (k == 2) = false := by simpa using h2
  have t3 : (k == 3) = false := by simpa using h3
  go_wp2
  go_ret
  exact ⟨rfl, (Below.refl _ _).alloc (Nat.le_refl _) _⟩
theorem col_any (c : Col) (w : World) (hs : c.name.size ≤ 9223372036854775807) :
    Calls Tryz.prog 168 #[c.val] w fun e w' => e = .returned (.bool (colB c)) ∧ Below w.heap.size w w' := by
  obtain ⟨s, k, m⟩ := c
  unfold colB
  simp only at *
  by_cases h2 : k = 2
  · subst h2; rw [if_pos rfl]; exact col2 s m w hs
  rw [if_neg h2]
  by_cases h1 : k = 1
  · subst h1; rw [if_pos (.inl rfl)]; exact col1 s m w hs
  by_cases h3 : k = 3
  · subst h3; rw [if_pos (.inr rfl)]; exact col3 s m w hs
  rw [if_neg (by omega)]
  exact colx s k m w h1 h2 h3
theorem flat_len {α : Type} (cells : α → List Value) (k : Nat) (hk : ∀ x, (cells x).length = k) (L : List α) : (L.flatMap cells).length = L.length * k := by
  induction L with
  | nil => simp
  | cons v l ih => simp only [List.flatMap_cons, List.length_append, List.length_cons, ih, hk, Nat.add_mul]; omega
theorem flat_at {α : Type} (cells : α → List Value) (k : Nat) (hk : ∀ x, (cells x).length = k) (L : List α) (i j : Nat) (hi : i < L.length) (hj : j < k) : (L.flatMap cells)[i * k + j]? = (cells L[i])[j]? := by
  have : L.flatMap cells = (L.map cells).flatten := by simp [List.flatMap]
  rw [this, flatten_get (k := k) _ (by intro v hv; obtain ⟨u, _, rfl⟩ := List.mem_map.1 hv; exact hk u) i j (by simpa using hi) hj]
  simp
theorem Rd.struct {α : Type} {cells : α → List Value} {k : Nat} (hk : ∀ x, (cells x).length = k) {w : World} {A : Option Addr} {n : Nat} (L : List α) (hL : L.length = n) (h : Rd w k A n (L.flatMap cells)) (i : Nat) (hi : i < L.length) : ∃ b o, A = some ⟨b, o, none⟩ ∧ ∀ j, j < k → w.cell? ⟨b, o + i * k + j, none⟩ = (cells L[i])[j]? := by
  obtain ⟨b, o, hA, hc⟩ := h.some_ (by omega)
  refine ⟨b, o, hA, fun j hj => ?_⟩
  have hl := flat_len cells k hk L
  have : i * k + k ≤ L.length * k := by
    rw [← Nat.succ_mul]; exact Nat.mul_le_mul_right _ hi
  rw [Nat.add_assoc, hc (i * k + j) (by omega)]
  exact flat_at cells k hk L i j hi hj
def Col.cells (c : Col) : List Value := [.string c.name, .int .i64 c.kind, .int .i64 c.max]
theorem Col.cells_len (c : Col) : c.cells.length = 3 := rfl
structure Ix where
  col : Int
  uniq : Bool
abbrev Ix.val (x : Ix) : Value := .agg #[.int .i64 x.col, .bool x.uniq]
def Ix.cells (x : Ix) : List Value := [.int .i64 x.col, .bool x.uniq]
theorem Ix.cells_len (x : Ix) : x.cells.length = 2 := rfl
set_option maxHeartbeats 800000 in
theorem idxC (g : Nat) (lb : Array Value) (p : Col → Bool) (eg : ∀ args w, (callFunc g args).run Tryz.prog w = .ok (.enter g args) w) (A : Option Addr) (n c : Nat) (L : List Col) (w : World) (h : Rd w 3 A n (L.flatMap Col.cells)) (hL : L.length = n) (hn : n ≤ 1000000)
    (hp : ∀ W, Below w.heap.size w W → ∀ x ∈ L, Calls Tryz.prog g (#[Col.val x] ++ lb) W fun e w' => e = .returned (.bool (p x)) ∧ Below w.heap.size w w') :
    Calls Tryz.prog 207 #[.slice A n c, .func (.func g) #[] lb] w fun e w' => ∃ r : Int, e = .returned (.int .i64 r) ∧ decide (0 ≤ r) = L.any p ∧ Below w.heap.size w w' := by
  go_enter Tryz.func207, Tryz.ntmps207
  go_wp2
  go_loopw [5, 8] (fun _ i wr => ∃ k : Nat, k ≤ n ∧ i = .int .i64 k ∧ Hid ((L.take k).any p = false) ∧ Hid (Below w.heap.size w wr)) (fun _ i _ => n - (intOf i).toNat)
  case atStart => exact ⟨0, Nat.zero_le _, rfl, hide (by simp), hide (Below.refl _ _)⟩
  case round =>
    obtain ⟨k, hk, rfl, HA, HB⟩ := hrel
    by_cases hlt : k < n
    rotate_left
    · go_wp2
      go_ret
      refine ⟨_, rfl, ?_, HB.out⟩
      have h0 := HA.out
      rw [List.take_of_length_le (by omega)] at h0
      rw [h0]
      simp
    obtain ⟨b, o, rfl, hc⟩ := (h.below HB.out).struct Col.cells_len L hL k (by omega)
    obtain ⟨x, hx⟩ : ∃ x, L[k]'(by omega) = x := ⟨_, rfl⟩
    have hm : x ∈ L := by rw [← hx]; exact List.getElem_mem _
    rw [hx] at hc
    have ht : L.take (k + 1) = L.take k ++ [x] := by rw [← hx]; simp
    obtain ⟨s, ck, cm⟩ := x
    have e0 : C wr b (o + k * 3) (.string s) := hc 0 (by omega)
    have e1 : C wr b (o + k * 3 + 1) (.int .i64 ck) := hc 1 (by omega)
    have e2 : C wr b (o + k * 3 + 2) (.int .i64 cm) := hc 2 (by omega)
    have hcall := hp wr HB.out _ hm
    have Ht := hide ht
    have Hp := hide hp
    clear hc hx ht hp h
    obtain ⟨r, hr⟩ : ∃ r, p ⟨s, ck, cm⟩ = r := ⟨_, rfl⟩
    rw [hr] at hcall
    have Hr := hide hr
    clear hr
    cases r with
    | true =>
      go_wp2_with fail
      refine hcall.mono ?_
      rintro e w' ⟨rfl, hb'⟩
      go_wp2
      go_ret
      refine ⟨_, rfl, ?_, hb'⟩
      rw [List.any_eq_true.2 ⟨_, hm, Hr.out⟩]
      simp
    | false =>
      go_wp2_with fail
      refine hcall.mono ?_
      rintro e w' ⟨rfl, hb'⟩
      go_wp2
      go_roundw
      case rel => exact ⟨k + 1, hlt, by go_num, hide (by rw [Ht.out, List.any_append, HA.out]; simp [Hr.out]), hide hb'⟩
      case measure => simp [intOf]; omega
set_option maxHeartbeats 800000 in
theorem contC (g : Nat) (lb : Array Value) (p : Col → Bool) (eg : ∀ args w, (callFunc g args).run Tryz.prog w = .ok (.enter g args) w) (A : Option Addr) (n c : Nat) (L : List Col) (w : World) (h : Rd w 3 A n (L.flatMap Col.cells)) (hL : L.length = n) (hn : n ≤ 1000000)
    (hp : ∀ W, Below w.heap.size w W → ∀ x ∈ L, Calls Tryz.prog g (#[Col.val x] ++ lb) W fun e w' => e = .returned (.bool (p x)) ∧ Below w.heap.size w w') :
    Calls Tryz.prog 166 #[.slice A n c, .func (.func g) #[] lb] w fun e w' => e = .returned (.bool (L.any p)) ∧ Below w.heap.size w w' := by
  have hcon := idxC g lb p eg A n c L w h hL hn hp
  clear hp h
  go_enter Tryz.func166, Tryz.ntmps166
  go_wp2_with fail
  refine hcon.mono ?_
  rintro e w' ⟨r, rfl, hr, hb⟩
  go_wp2
  go_ret
  exact ⟨by first | rfl | exact ret_bool hr, hb⟩
set_option maxHeartbeats 800000 in
theorem idxX (g : Nat) (lb : Array Value) (p : Ix → Bool) (eg : ∀ args w, (callFunc g args).run Tryz.prog w = .ok (.enter g args) w) (A : Option Addr) (n c : Nat) (L : List Ix) (w : World) (h : Rd w 2 A n (L.flatMap Ix.cells)) (hL : L.length = n) (hn : n ≤ 1000000)
    (hp : ∀ W, Below w.heap.size w W → ∀ x ∈ L, Calls Tryz.prog g (#[Ix.val x] ++ lb) W fun e w' => e = .returned (.bool (p x)) ∧ Below w.heap.size w w') :
    Calls Tryz.prog 122 #[.slice A n c, .func (.func g) #[] lb] w fun e w' => ∃ r : Int, e = .returned (.int .i64 r) ∧ decide (0 ≤ r) = L.any p ∧ Below w.heap.size w w' := by
  go_enter Tryz.func122, Tryz.ntmps122
  go_wp2
  go_loopw [5, 8] (fun _ i wr => ∃ k : Nat, k ≤ n ∧ i = .int .i64 k ∧ Hid ((L.take k).any p = false) ∧ Hid (Below w.heap.size w wr)) (fun _ i _ => n - (intOf i).toNat)
  case atStart => exact ⟨0, Nat.zero_le _, rfl, hide (by simp), hide (Below.refl _ _)⟩
  case round =>
    obtain ⟨k, hk, rfl, HA, HB⟩ := hrel
    by_cases hlt : k < n
    rotate_left
    · go_wp2
      go_ret
      refine ⟨_, rfl, ?_, HB.out⟩
      have h0 := HA.out
      rw [List.take_of_length_le (by omega)] at h0
      rw [h0]
      simp
    obtain ⟨b, o, rfl, hc⟩ := (h.below HB.out).struct Ix.cells_len L hL k (by omega)
    obtain ⟨x, hx⟩ : ∃ x, L[k]'(by omega) = x := ⟨_, rfl⟩
    have hm : x ∈ L := by rw [← hx]; exact List.getElem_mem _
    rw [hx] at hc
    have ht : L.take (k + 1) = L.take k ++ [x] := by rw [← hx]; simp
    obtain ⟨ck, cu⟩ := x
    have e0 : C wr b (o + k * 2) (.int .i64 ck) := hc 0 (by omega)
    have e1 : C wr b (o + k * 2 + 1) (.bool cu) := hc 1 (by omega)
    have hcall := hp wr HB.out _ hm
    have Ht := hide ht
    have Hp := hide hp
    clear hc hx ht hp h
    obtain ⟨r, hr⟩ : ∃ r, p ⟨ck, cu⟩ = r := ⟨_, rfl⟩
    rw [hr] at hcall
    have Hr := hide hr
    clear hr
    cases r with
    | true =>
      go_wp2_with fail
      refine hcall.mono ?_
      rintro e w' ⟨rfl, hb'⟩
      go_wp2
      go_ret
      refine ⟨_, rfl, ?_, hb'⟩
      rw [List.any_eq_true.2 ⟨_, hm, Hr.out⟩]
      simp
    | false =>
      go_wp2_with fail
      refine hcall.mono ?_
      rintro e w' ⟨rfl, hb'⟩
      go_wp2
      go_roundw
      case rel => exact ⟨k + 1, hlt, by go_num, hide (by rw [Ht.out, List.any_append, HA.out]; simp [Hr.out]), hide hb'⟩
      case measure => simp [intOf]; omega
set_option maxHeartbeats 800000 in
theorem contX (g : Nat) (lb : Array Value) (p : Ix → Bool) (eg : ∀ args w, (callFunc g args).run Tryz.prog w = .ok (.enter g args) w) (A : Option Addr) (n c : Nat) (L : List Ix) (w : World) (h : Rd w 2 A n (L.flatMap Ix.cells)) (hL : L.length = n) (hn : n ≤ 1000000)
    (hp : ∀ W, Below w.heap.size w W → ∀ x ∈ L, Calls Tryz.prog g (#[Ix.val x] ++ lb) W fun e w' => e = .returned (.bool (p x)) ∧ Below w.heap.size w w') :
    Calls Tryz.prog 66 #[.slice A n c, .func (.func g) #[] lb] w fun e w' => e = .returned (.bool (L.any p)) ∧ Below w.heap.size w w' := by
  have hcon := idxX g lb p eg A n c L w h hL hn hp
  clear hp h
  go_enter Tryz.func66, Tryz.ntmps66
  go_wp2_with fail
  refine hcon.mono ?_
  rintro e w' ⟨r, rfl, hr, hb⟩
  go_wp2
  go_ret
  exact ⟨by first | rfl | exact ret_bool hr, hb⟩
theorem r167 (b : Nat) (s : ByteArray) (x : Col) (w : World) (h : C w b 0 (.string s)) : Calls Tryz.prog 167 #[x.val, .pointer (some ⟨b, 0, none⟩)] w fun e w' => e = .returned (.bool (x.name.toList == s.toList)) ∧ Below w.heap.size w w' := by
  obtain ⟨xn, xk, xm⟩ := x
  have h1 := h.alloc (.cells #[.string xn, .int .i64 xk, .int .i64 xm] 49)
  have hne : b ≠ w.heap.size := by have := h.lt; omega
  go_enter Tryz.func167, Tryz.ntmps167
  go_wp2
  go_ret
  exact ⟨rfl, (Below.refl _ _).alloc (Nat.le_refl _) _⟩
theorem r169 (b : Nat) (k : Int) (x : Ix) (w : World) (h : C w b 0 (.int .i64 k)) : Calls Tryz.prog 169 #[x.val, .pointer (some ⟨b, 0, none⟩)] w fun e w' => e = .returned (.bool (k == x.col)) ∧ Below w.heap.size w w' := by
  obtain ⟨xn, xk⟩ := x
  have h1 := h.alloc (.cells #[.int .i64 xn, .bool xk] 68)
  have hne : b ≠ w.heap.size := by have := h.lt; omega
  go_enter Tryz.func169, Tryz.ntmps169
  go_wp2
  go_ret
  exact ⟨rfl, (Below.refl _ _).alloc (Nat.le_refl _) _⟩
theorem Rd.take_ {α : Type} {cells : α → List Value} {k : Nat} (hk : ∀ x, (cells x).length = k) {w : World} {A : Option Addr} {n : Nat} (L : List α) (hL : L.length = n) (h : Rd w k A n (L.flatMap cells)) (i : Nat) (hi : i ≤ n) : Rd w k A i ((L.take i).flatMap cells) := by
  have hl := flat_len cells k hk
  refine ⟨by rw [hl, List.length_take]; congr 1; omega, ?_⟩
  by_cases h0 : i = 0
  · exact .inl h0
  obtain ⟨b, o, hA, hc⟩ := h.some_ (by omega)
  refine .inr ⟨b, o, hA, fun j hj => ?_⟩
  have e : L.flatMap cells = (L.take i).flatMap cells ++ (L.drop i).flatMap cells := by rw [← List.flatMap_append, List.take_append_drop]
  rw [hc j (by rw [e, List.length_append]; omega), e, List.getElem?_append_left hj]
structure Sch where
  name : ByteArray
  cols : List Col
  ixs : List Ix
def goCols : List Col → List Col → Bool
  | _, [] => true
  | pre, c :: r => !(pre.any fun x => x.name.toList == c.name.toList) && (colB c && goCols (pre ++ [c]) r)
def goIxs (n : Nat) : List Ix → List Ix → Bool
  | _, [] => true
  | pre, x :: r => !(pre.any fun y => x.col == y.col) && (decide (1 ≤ x.col) && (decide (x.col < n) && goIxs n (pre ++ [x]) r))
def preS (s : Sch) : Bool := nameB s.name && (decide (1 ≤ s.cols.length) && (decide (s.cols.length ≤ 3) && decide (s.ixs.length ≤ 3)))
def rightS (s : Sch) : Bool := preS s && (goCols [] s.cols && goIxs s.cols.length [] s.ixs)
def SchV (w : World) (s : Sch) (v : Value) : Prop := ∃ A c B d, v = .agg #[.string s.name, .slice A s.cols.length c, .slice B s.ixs.length d] ∧ s.cols.length ≤ c ∧ s.ixs.length ≤ d ∧ Rd w 3 A s.cols.length (s.cols.flatMap Col.cells) ∧ Rd w 2 B s.ixs.length (s.ixs.flatMap Ix.cells)
theorem SchV.below {w w' : World} {s : Sch} {v : Value} (h : SchV w s v) (hb : Below w.heap.size w w') : SchV w' s v := by
  obtain ⟨A, c, B, d, hv, h1, h2, h3, h4⟩ := h
  exact ⟨A, c, B, d, hv, h1, h2, h3.below hb, h4.below hb⟩
def Sch.small (s : Sch) : Prop := s.name.size ≤ 9223372036854775807 ∧ ∀ c ∈ s.cols, c.name.size ≤ 9223372036854775807
set_option maxHeartbeats 4000000 in
set_option maxRecDepth 100000 in
theorem rightS_any (s : Sch) (v : Value) (w : World) (h : SchV w s v) (hs : s.small) :
    Calls Tryz.prog 107 #[v] w fun e w' => e = .returned (.int .i64 (cond (rightS s) 0 61)) ∧ Below w.heap.size w w' := by
  obtain ⟨A, c, B, d, rfl, hc, hd, hC, hX⟩ := h
  obtain ⟨R, hR⟩ : ∃ R, (cond (rightS s) (0 : Int) 61) = R := ⟨_, rfl⟩
  rw [hR]
  obtain ⟨nm, cols, ixs⟩ := s
  obtain ⟨hs1, hs2⟩ := hs
  simp only [rightS] at *
  obtain ⟨n, hn⟩ : ∃ n, cols.length = n := ⟨_, rfl⟩
  obtain ⟨m, hm⟩ : ∃ m, ixs.length = m := ⟨_, rfl⟩
  rw [hn] at hR hc hC ⊢
  rw [hm] at hd hX ⊢
  have HR := hide hR
  have HC := hide hC
  have HX := hide hX
  have Hs2 := hide hs2
  clear hR hC hX hs2
  obtain ⟨x, hx⟩ : ∃ x, nameB nm = x := ⟨_, rfl⟩
  obtain ⟨y, hy⟩ : ∃ y, preS ⟨nm, cols, ixs⟩ = y := ⟨_, rfl⟩
  have Hy := hide hy
  have Hx := hide hx
  clear hx hy
  have hb0 := fun o => (Below.refl w.heap.size w).alloc (Nat.le_refl _) o
  have HB0 := hide hb0
  clear hb0
  go_enter Tryz.func107, Tryz.ntmps107
  go_wp2_with fail
  refine (name_any nm _ hs1).mono ?_
  rintro e w1 ⟨rfl, hb⟩
  rw [Hx.out]
  have n0 := (C.new w #[.string nm, .slice A n c, .slice B m d] 25 0 (v := .string nm) rfl).below hb
  have n1 := (C.new w #[.string nm, .slice A n c, .slice B m d] 25 1 (v := .slice A n c) rfl).below hb
  have n2 := (C.new w #[.string nm, .slice A n c, .slice B m d] 25 2 (v := .slice B m d) rfl).below hb
  have hb := below_chain (HB0.out _) hb
  cases x
  · have h61 : R = 61 := by rw [← HR.out]; simp [preS, Hx.out]
    go_wp2
    go_ret
    exact ⟨ret_int h61.symm, hb⟩
  by_cases h1 : (n : Int) < 1
  · have h61 : R = 61 := by rw [← HR.out]; have : n = 0 := by omega
                            simp [preS, hn, this]
    go_wp2
    go_ret
    exact ⟨ret_int h61.symm, hb⟩
  by_cases h2 : (3 : Int) < n
  · have h61 : R = 61 := by rw [← HR.out]; have : ¬ n ≤ 3 := by omega
                            simp [preS, hn, this]
    go_wp2
    go_ret
    exact ⟨ret_int h61.symm, hb⟩
  by_cases h3 : (3 : Int) < m
  · have h61 : R = 61 := by rw [← HR.out]; have : ¬ m ≤ 3 := by omega
                            simp [preS, hm, this]
    go_wp2
    go_ret
    exact ⟨ret_int h61.symm, hb⟩
  have hR2 : (cond (goCols [] cols && goIxs n [] ixs) (0 : Int) 61) = R := by
    rw [← HR.out]
    have e : preS ⟨nm, cols, ixs⟩ = true := by simp [preS, Hx.out, hn, hm]; omega
    rw [e, Bool.true_and]
  have HR2 := hide hR2
  clear hR2 HR Hy Hx
  have hsz := hb.size
  have Hb := hide hb
  clear hb HB0
  have eg167 : ∀ args w, (callFunc 167 args).run Tryz.prog w = .ok (.enter 167 args) w := enters_of Tryz.func167 (by kernel_rfl) rfl
  have eg169 : ∀ args w, (callFunc 169 args).run Tryz.prog w = .ok (.enter 169 args) w := enters_of Tryz.func169 (by kernel_rfl) rfl
  go_wp2_with fail
  go_loopw [34] (fun i wr => ∃ k : Nat, k ≤ n ∧ i = .int .i64 k ∧ Hid (goCols (cols.take k) (cols.drop k) = goCols [] cols) ∧ Hid (Below w1.heap.size w1 wr)) (fun i _ => n - (intOf i).toNat)
  case atStart => exact ⟨0, Nat.zero_le _, rfl, hide (by simp), hide (Below.refl _ _)⟩
  case round =>
    obtain ⟨k, hk, rfl, HG, HB⟩ := hrel
    have hbw := below_chain Hb.out HB.out
    have n1' := n1
    have n2' := n2
    have n0 := n0.below HB.out
    have n1 := n1.below HB.out
    have n2 := n2.below HB.out
    by_cases hlt : k < n
    · obtain ⟨b, o, rfl, hcc⟩ := (HC.out.below hbw).struct Col.cells_len cols hn k (by omega)
      obtain ⟨x, hx⟩ : ∃ x, cols[k]'(by omega) = x := ⟨_, rfl⟩
      have hm : x ∈ cols := by rw [← hx]; exact List.getElem_mem _
      rw [hx] at hcc
      have ht : cols.take (k + 1) = cols.take k ++ [x] := by rw [← hx]; simp
      have hd' : cols.drop k = x :: cols.drop (k + 1) := by rw [← hx]; simp
      obtain ⟨s, ck, cm⟩ := x
      have e0 : C wr b (o + k * 3) (.string s) := hcc 0 (by omega)
      have e1 : C wr b (o + k * 3 + 1) (.int .i64 ck) := hcc 1 (by omega)
      have e2 : C wr b (o + k * 3 + 2) (.int .i64 cm) := hcc 2 (by omega)
      have hg := HG.out
      rw [hd', goCols] at hg
      have Hg := hide hg
      have Ht := hide ht
      have hss : s.size ≤ 9223372036854775807 := Hs2.out _ hm
      have hRt := hide (((HC.out.below hbw).take_ Col.cells_len cols hn k hk).alloc (.cells #[.string s, .int .i64 ck, .int .i64 cm] 49))
      have q0 := C.new wr #[.string s, .int .i64 ck, .int .i64 cm] 49 0 (v := .string s) rfl
      have q1 := C.new wr #[.string s, .int .i64 ck, .int .i64 cm] 49 1 (v := .int .i64 ck) rfl
      have q2 := C.new wr #[.string s, .int .i64 ck, .int .i64 cm] 49 2 (v := .int .i64 cm) rfl
      have hlen : (cols.take k).length = k := by rw [List.length_take]; omega
      have hcon := contC 167 #[.pointer (some ⟨wr.heap.size, 0, none⟩)] (fun x => x.name.toList == s.toList) eg167 (some ⟨b, o, none⟩) k c (cols.take k) _ hRt.out hlen (by omega) (fun W hW x _ => (r167 _ s x W (q0.below hW)).mono fun e w' h => ⟨h.1, below_then hW hW.size h.2⟩)
      have m1 := n1.alloc (.cells #[.string s, .int .i64 ck, .int .i64 cm] 49)
      clear hcc hx ht hd' hg
      obtain ⟨r, hr⟩ : ∃ r, ((cols.take k).any fun x => x.name.toList == s.toList) = r := ⟨_, rfl⟩
      rw [hr] at hcon
      have Hr := hide hr
      clear hr
      go_wp2_with fail
      refine hcon.mono ?_
      rintro e w2 ⟨rfl, hb2⟩
      have q0 := q0.below hb2
      have q1 := q1.below hb2
      have q2 := q2.below hb2
      have hb3 := below_then HB.out HB.out.size (below_chain ((Below.refl _ _).alloc (Nat.le_refl _) _) hb2)
      have Hb3 := hide hb3
      clear hb2 hb3
      cases r with
      | true =>
        have h61 : R = 61 := by rw [← HR2.out, ← Hg.out, Hr.out]; rfl
        go_wp2
        go_ret
        exact ⟨ret_int h61.symm, below_chain Hb.out Hb3.out⟩
      | false =>
        have Hcon := hide (col_any ⟨s, ck, cm⟩ w2 hss)
        obtain ⟨r2, hr2⟩ : ∃ r, colB ⟨s, ck, cm⟩ = r := ⟨_, rfl⟩
        rw [hr2] at Hcon
        have Hr2 := hide hr2
        clear hr2
        go_wp2_with fail
        refine Hcon.out.mono ?_
        rintro e w3 ⟨rfl, hb4⟩
        have hb5 := below_then Hb3.out Hb3.out.size hb4
        have Hb5 := hide hb5
        clear hb4 hb5
        cases r2 with
        | false =>
          have h61 : R = 61 := by rw [← HR2.out, ← Hg.out, Hr2.out]; simp
          go_wp2
          go_ret
          exact ⟨ret_int h61.symm, below_chain Hb.out Hb5.out⟩
        | true =>
          go_wp2
          go_roundw
          case rel => exact ⟨k + 1, hlt, by go_num, hide (by rw [Ht.out, ← Hg.out, Hr.out, Hr2.out]; rfl), Hb5⟩
          case measure => simp [intOf]; omega
    have hg : goCols [] cols = true := by
      rw [← HG.out, List.drop_of_length_le (by omega)]
      rfl
    have hR2 := HR2.out
    rw [hg, Bool.true_and] at hR2
    have HR2 := hide hR2
    clear hg hR2 HG
    have N1 := hide (show C w1 w.heap.size 1 _ from n1')
    have N2 := hide (show C w1 w.heap.size 2 _ from n2')
    go_wp2_with fail
    clear n1' n2' n0 n1 n2
    go_loopw [55] (fun i wr => ∃ k : Nat, k ≤ m ∧ i = .int .i64 k ∧ Hid (goIxs n (ixs.take k) (ixs.drop k) = goIxs n [] ixs) ∧ Hid (Below w1.heap.size w1 wr)) (fun i _ => m - (intOf i).toNat)
    case atStart => exact ⟨0, Nat.zero_le _, rfl, hide (by simp), HB⟩
    case round =>
      obtain ⟨k, hk, rfl, HG, HB⟩ := hrel
      have hbw := below_chain Hb.out HB.out
      have n1 := (unhide N1).below HB.out
      have n2 := (unhide N2).below HB.out
      by_cases hlt : k < m
      rotate_left
      · have h0 : R = 0 := by
          have h1 := HG.out
          rw [List.drop_of_length_le (by omega)] at h1
          rw [← HR2.out, ← h1]
          rfl
        go_wp2
        go_ret
        exact ⟨ret_int h0.symm, below_chain Hb.out HB.out⟩
      obtain ⟨b, o, rfl, hcc⟩ := (HX.out.below hbw).struct Ix.cells_len ixs hm k (by omega)
      obtain ⟨x, hx⟩ : ∃ x, ixs[k]'(by omega) = x := ⟨_, rfl⟩
      rw [hx] at hcc
      have ht : ixs.take (k + 1) = ixs.take k ++ [x] := by rw [← hx]; simp
      have hd' : ixs.drop k = x :: ixs.drop (k + 1) := by rw [← hx]; simp
      obtain ⟨ck, cu⟩ := x
      have e0 : C wr b (o + k * 2) (.int .i64 ck) := hcc 0 (by omega)
      have e1 : C wr b (o + k * 2 + 1) (.bool cu) := hcc 1 (by omega)
      have hg := HG.out
      rw [hd', goIxs] at hg
      have Hg := hide hg
      have Ht := hide ht
      have hRt := hide (((HX.out.below hbw).take_ Ix.cells_len ixs hm k hk).alloc (.cells #[.int .i64 ck, .bool cu] 68))
      have q0 := C.new wr #[.int .i64 ck, .bool cu] 68 0 (v := .int .i64 ck) rfl
      have hlen : (ixs.take k).length = k := by rw [List.length_take]; omega
      have hcon := contX 169 #[.pointer (some ⟨wr.heap.size, 0, none⟩)] (fun y => ck == y.col) eg169 (some ⟨b, o, none⟩) k d (ixs.take k) _ hRt.out hlen (by omega) (fun W hW x _ => (r169 _ ck x W (q0.below hW)).mono fun e w' h => ⟨h.1, below_then hW hW.size h.2⟩)
      have m2 := n2.alloc (.cells #[.int .i64 ck, .bool cu] 68)
      have m1 := n1.alloc (.cells #[.int .i64 ck, .bool cu] 68)
      clear hcc hx ht hd' hg
      obtain ⟨r, hr⟩ : ∃ r, ((ixs.take k).any fun y => ck == y.col) = r := ⟨_, rfl⟩
      rw [hr] at hcon
      have Hr := hide hr
      clear hr
      go_wp2_with fail
      refine hcon.mono ?_
      rintro e w2 ⟨rfl, hb2⟩
      have q0 := q0.below hb2
      have m1 := m1.below hb2
      have hb3 := below_then HB.out HB.out.size (below_chain ((Below.refl _ _).alloc (Nat.le_refl _) _) hb2)
      have Hb3 := hide hb3
      clear hb2 hb3
      cases r with
      | true =>
        have h61 : R = 61 := by rw [← HR2.out, ← Hg.out, Hr.out]; rfl
        go_wp2
        go_ret
        exact ⟨ret_int h61.symm, below_chain Hb.out Hb3.out⟩
      | false =>
        by_cases g1 : ck < 1
        · have h61 : R = 61 := by
            have : ¬ 1 ≤ ck := by omega
            rw [← HR2.out, ← Hg.out, Hr.out]; simp [this]
          go_wp2
          go_ret
          exact ⟨ret_int h61.symm, below_chain Hb.out Hb3.out⟩
        by_cases g2 : (n : Int) ≤ ck
        · have h61 : R = 61 := by
            have : ¬ ck < n := by omega
            rw [← HR2.out, ← Hg.out, Hr.out]; simp [this]
          go_wp2
          go_ret
          exact ⟨ret_int h61.symm, below_chain Hb.out Hb3.out⟩
        have hg2 : goIxs n (ixs.take (k + 1)) (ixs.drop (k + 1)) = goIxs n [] ixs := by
          have a1 : 1 ≤ ck := by omega
          have a2 : ck < n := by omega
          rw [Ht.out, ← Hg.out, Hr.out]; simp [a1, a2]
        have Hg2 := hide hg2
        clear hg2
        go_wp2
        go_roundw
        case rel => exact ⟨k + 1, hlt, by go_num, Hg2, Hb3⟩
        case measure => simp [intOf]; omega
end Go.Proofs.YtekokogmnhlchaaGreatDoor
