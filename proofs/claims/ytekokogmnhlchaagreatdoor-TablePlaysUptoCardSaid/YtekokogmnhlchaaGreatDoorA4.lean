import Derived.Test.YtekokogmnhlchaaGreatDoorA3
import Derived.Test.YtekokogmnhlchaaGreatDoorA1
import Derived.Laws.BitsLemmas
import Derived.Laws.Cover4
set_option linter.unusedSimpArgs false
set_option linter.unusedVariables false
set_option linter.unusedSectionVars false
namespace Go.Proofs.YtekokogmnhlchaaGreatDoor
open Go.RowKit
theorem r32T : SlT Tryz.prog 199 21 1 4 := ⟨by
  obtain ⟨i, hi, hz0, hz1, hz2⟩ := info_parts (P := Tryz.prog) (e := 21) (z := .int .i32 0) (size := 1) (bytes := 4) (by kernel_rfl)
  exact ⟨i, _, Tryz.underlying199, hi, hz0, hz1, hz2, rfl, by omega⟩⟩
def rns (l : List Nat) : List Value := l.map fun r : Nat => .int .i32 ((r : Nat) : Int)
def g3 (l : List Nat) : List UInt8 := l.flatMap fun r => three (r + 1)
theorem g3_len (l : List Nat) : (g3 l).length = 3 * l.length := by
  induction l with
  | nil => rfl
  | cons r l ih => simp only [g3, List.flatMap_cons, List.length_append, three_len, List.length_cons] at ih ⊢; omega
theorem drop_get {l r : List UInt8} {k : Nat} (h : l.drop k = r) (i : Nat) {x : UInt8} (hx : r[i]? = some x) : ∃ h : k + i < l.length, l[k + i] = x := by
  subst h
  rw [List.getElem?_drop] at hx
  exact List.getElem?_eq_some_iff.1 hx
theorem or_16 (x y : Int) (h0 : 0 ≤ x) (h1 : x ≤ 127) (h2 : 0 ≤ y) (h3 : y < 65536) : bits .or .i32 (x * 65536) y = x * 65536 + y :=
  bits_join .i32 31 (by decide) wraps_i32 16 (x * 65536) y (by omega) (by omega) (by omega) h2 (by omega) (by omega)
theorem or_8 (x y : Int) (h0 : 0 ≤ x) (h1 : x < 32768) (h2 : 0 ≤ y) (h3 : y < 256) : bits .or .i32 (x * 256) y = x * 256 + y :=
  bits_join .i32 31 (by decide) wraps_i32 8 (x * 256) y (by omega) (by omega) (by omega) h2 (by omega) (by omega)
theorem conv_runes {w : World} {A : Option Addr} {n : Nat} {l : List Nat} (h : Rd w 1 A n (rns l)) (c : Nat) : (convert 199 9 (.slice A n c)).run Tryz.prog w = .ok (.string (runesBytes (l.map fun r : Nat => ((r : Nat) : Int)))) w := by
  have hl : l.length = n := by have := h.1; simpa [rns] using this
  rcases A with _ | a
  · rcases h.2 with h0 | ⟨b, o, hA, _⟩
    · have : l = [] := List.eq_nil_of_length_eq_zero (by omega)
      subst this
      exact run_convert_runes_nil w 199 9 21 n c Tryz.underlying199 Tryz.underlying21 Tryz.underlying9
    cases hA
  have := run_convert_runes (P := Tryz.prog) w 199 9 21 a n c (l.map fun r : Nat => ((r : Nat) : Int)) (by simp [hl]) Tryz.underlying199 Tryz.underlying21 Tryz.underlying9 (by
    intro j hj
    simp only [List.length_map] at hj
    rcases h.2 with h0 | ⟨b, o, hA, hc⟩
    · omega
    cases hA
    rw [add_plain, hc j (by simp [rns]; omega)]
    simp [rns, List.getD_eq_getElem?_getD, List.getElem?_eq_getElem hj])
  rw [this, List.take_of_length_le (by simp [hl])]
set_option maxHeartbeats 1600000 in
set_option maxRecDepth 10000000 in
theorem text_any (A : Option Addr) (n c : Nat) (rs : List Nat) (rest : List UInt8) (w : World) (h : RB w A n (3 :: (g3 rs ++ ([0, 0, 0] ++ rest)))) (hr : ∀ r ∈ rs, Lib.validRune (r : Int) = true) (hn : n ≤ 100000000) :
    Calls Tryz.prog 181 #[.slice A n c] w fun e w' => e = .returned (.tuple #[.agg #[.int .i64 2, .int .i64 0, .string (runesBytes (rs.map fun r : Nat => ((r : Nat) : Int)))], .int .i64 (1 + 3 * rs.length + 3 : Nat)]) ∧ Below w.heap.size w w' := by
  obtain ⟨l, hl⟩ : ∃ l, (3 : UInt8) :: (g3 rs ++ ([0, 0, 0] ++ rest)) = l := ⟨_, rfl⟩
  have hd : l.drop 1 = g3 rs ++ ([0, 0, 0] ++ rest) := by rw [← hl]; rfl
  have hlen : n = 1 + 3 * rs.length + 3 + rest.length := by
    rw [← h.len]; simp [g3_len]; omega
  rw [hl] at h
  have H := hide h
  have Hd := hide hd
  have Hr := hide hr
  obtain ⟨Q, hQ⟩ : ∃ Q, runesBytes (rs.map fun r : Nat => ((r : Nat) : Int)) = Q := ⟨_, rfl⟩
  rw [hQ]
  have HQ := hide hQ
  clear h hd hr hl hQ
  obtain ⟨b, o, rfl, _⟩ := H.out.some_ (by omega)
  go_enter Tryz.func181, Tryz.ntmps181
  go_wp2_with fail
  go_loopw [4, 5] (fun s i wr => ∃ (k : Nat) (A' : Option Addr) (c' : Nat), k ≤ rs.length ∧ i = .int .i64 (1 + 3 * k : Nat) ∧ s = .slice A' k c' ∧ Hid (l.drop (1 + 3 * k) = g3 (rs.drop k) ++ ([0, 0, 0] ++ rest)) ∧ Hid (wr.ownsRow (w.heap.size + 1) 21 1 (.slice A' k c') k (rns (rs.take k))) ∧ Hid (Below (w.heap.size + 1) (w.alloc (.cells #[.int .i64 0, .int .i64 0, .string ByteArray.empty] 28)) wr)) (fun _ i _ => n - (intOf i).toNat)
  case atStart => exact ⟨0, none, 0, Nat.zero_le _, rfl, rfl, hide (by simpa using Hd.out), hide (World.ownsRow_nil _ _ 21 1), hide (Below.refl _ _)⟩
  case round =>
    obtain ⟨k, A', c', hk, rfl, rfl, HD, HO, HB⟩ := hrel
    have hbw : Below w.heap.size w wr := ((Below.refl _ _).alloc (Nat.le_refl _) _).trans (HB.out.mono (Nat.le_succ _))
    have hR : RB wr (some ⟨b, o, none⟩) n l := H.out.below hbw
    have Hbw := hide hbw
    by_cases hlt : k < rs.length
    rotate_left
    · have hke : k = rs.length := by omega
      subst hke
      have hd2 := HD.out
      rw [List.drop_length] at hd2
      obtain ⟨p0, q0⟩ := drop_get hd2 0 (x := 0) rfl
      obtain ⟨p1, q1⟩ := drop_get hd2 1 (x := 0) rfl
      obtain ⟨p2, q2⟩ := drop_get hd2 2 (x := 0) rfl
      obtain ⟨b0, o0, hA0, c0⟩ := hR.at_ (1 + 3 * rs.length + 0) (by rw [hR.len] at p0; exact p0)
      obtain ⟨b1, o1, hA1, c1⟩ := hR.at_ (1 + 3 * rs.length + 1) (by rw [hR.len] at p1; exact p1)
      obtain ⟨b2, o2, hA2, c2⟩ := hR.at_ (1 + 3 * rs.length + 2) (by rw [hR.len] at p2; exact p2)
      cases hA0; cases hA1; cases hA2
      rw [q0] at c0
      rw [q1] at c1
      rw [q2] at c2
      have hpn : 1 + 3 * rs.length + 2 < n := by rw [hR.len] at p2; exact p2
      have c0 : C wr b (o + (1 + 3 * rs.length)) (.int .u8 0) := c0
      have c1 : C wr b (o + (1 + 3 * rs.length + 1)) (.int .u8 0) := c1
      have c2 : C wr b (o + (1 + 3 * rs.length + 2)) (.int .u8 0) := c2
      have hbD := below_drewN (Below.refl w.heap.size wr)
      have hfin : (1 + 3 * rs.length + 3 : Nat) = 1 + 3 * rs.length + 3 := rfl
      clear p0 q0 p1 q1 p2 q2 hd2 HD hR
      generalize hj : 1 + 3 * rs.length = j at *
      have Ho0 : Hid (bits BinOp.or IntKind.i32 (bits BinOp.or IntKind.i32 0 0) 0 = 0) := hide (by decide)
      go_wp2_with fail
      go_quiet (fail)
      try rw [Ho0.out]
      have HO2 : Hid ((wr.drewN nq).ownsRow (w.heap.size + 1) 21 1 (.slice A' rs.length c') rs.length (rns (rs.take rs.length))) := hide HO.out
      have HB2 := hide (below_drewN HB.out nq)
      have d0 := (C.new w #[.int .i64 0, .int .i64 0, .string ByteArray.empty] 28 0 (v := .int .i64 0) rfl).below (HB2.out.mono (Nat.le_of_eq (by simp)))
      have d1 := (C.new w #[.int .i64 0, .int .i64 0, .string ByteArray.empty] 28 1 (v := .int .i64 0) rfl).below (HB2.out.mono (Nat.le_of_eq (by simp)))
      have d2 := (C.new w #[.int .i64 0, .int .i64 0, .string ByteArray.empty] 28 2 (v := .string ByteArray.empty) rfl).below (HB2.out.mono (Nat.le_of_eq (by simp)))
      have f0 := (HB2.out.frozen (p := ⟨w.heap.size, 0, none⟩) (Nat.lt_succ_self _)).trans (World.frozen?_alloc_new w #[.int .i64 0, .int .i64 0, .string ByteArray.empty] 28 0)
      have f1 := (HB2.out.frozen (p := ⟨w.heap.size, 1, none⟩) (Nat.lt_succ_self _)).trans (World.frozen?_alloc_new w #[.int .i64 0, .int .i64 0, .string ByteArray.empty] 28 1)
      have f2 := (HB2.out.frozen (p := ⟨w.heap.size, 2, none⟩) (Nat.lt_succ_self _)).trans (World.frozen?_alloc_new w #[.int .i64 0, .int .i64 0, .string ByteArray.empty] 28 2)
      have hcv := conv_runes (Rd.of_own HO2.out) c'
      rw [List.take_length, HQ.out] at hcv
      clear HO HB c0 c1 c2 HO2
      generalize wr.drewN nq = wq at *
      have hbx : Below w.heap.size w wq := ((Below.refl _ _).alloc (Nat.le_refl _) _).trans (HB2.out.mono (Nat.le_succ _))
      go_wp2
      refine bodyPost_ret (v := .tuple #[.agg #[.int .i64 2, .int .i64 0, .string Q], .int .i64 (j + 3 : Nat)]) (by simp [results, Tryz.results181, go_sem, d0, d1, d2]) rfl ?_
      exact ⟨by rw [← hj], ((hbx.setCell (Nat.le_refl _) _).setCell (Nat.le_refl _) _).setCell (Nat.le_refl _) _⟩
    obtain ⟨r, hrr⟩ : ∃ r, rs[k] = r := ⟨_, rfl⟩
    have hm : r ∈ rs := by rw [← hrr]; exact List.getElem_mem _
    have hv := Hr.out r hm
    have hb : r ≤ 1114111 := by
      have := hv
      simp only [Lib.validRune, decide_eq_true_eq] at this
      omega
    have ht : rs.take (k + 1) = rs.take k ++ [r] := by rw [← hrr]; simp
    have hd' : rs.drop k = r :: rs.drop (k + 1) := by rw [← hrr]; simp
    have hd2 := HD.out
    rw [hd'] at hd2
    have hd3 : l.drop (1 + 3 * (k + 1)) = g3 (rs.drop (k + 1)) ++ ([0, 0, 0] ++ rest) := by
      have := congrArg (List.drop 3) hd2
      rw [List.drop_drop] at this
      rw [show 1 + 3 * (k + 1) = 1 + 3 * k + 3 by omega, this]
      rfl
    obtain ⟨p0, q0⟩ := drop_get hd2 0 (x := UInt8.ofNat ((r + 1) / 65536)) rfl
    obtain ⟨p1, q1⟩ := drop_get hd2 1 (x := UInt8.ofNat ((r + 1) / 256)) rfl
    obtain ⟨p2, q2⟩ := drop_get hd2 2 (x := UInt8.ofNat (r + 1)) rfl
    obtain ⟨b0, o0, hA0, c0⟩ := hR.at_ (1 + 3 * k + 0) (by rw [hR.len] at p0; exact p0)
    obtain ⟨b1, o1, hA1, c1⟩ := hR.at_ (1 + 3 * k + 1) (by rw [hR.len] at p1; exact p1)
    obtain ⟨b2, o2, hA2, c2⟩ := hR.at_ (1 + 3 * k + 2) (by rw [hR.len] at p2; exact p2)
    cases hA0; cases hA1; cases hA2
    rw [q0, ofNat_cell] at c0
    rw [q1, ofNat_cell] at c1
    rw [q2, ofNat_cell] at c2
    have hpn : 1 + 3 * k + 2 < n := by rw [hR.len] at p2; exact p2
    clear p0 q0 p1 q1 p2 q2 hd' hrr hd2 HD
    obtain ⟨x0, hx0⟩ : ∃ x : Int, (((r + 1) / 65536 : Nat) : Int) % 256 = x := ⟨_, rfl⟩
    obtain ⟨x1, hx1⟩ : ∃ x : Int, (((r + 1) / 256 : Nat) : Int) % 256 = x := ⟨_, rfl⟩
    obtain ⟨x2, hx2⟩ : ∃ x : Int, ((r + 1 : Nat) : Int) % 256 = x := ⟨_, rfl⟩
    rw [hx0] at c0
    rw [hx1] at c1
    rw [hx2] at c2
    have y0 : 0 ≤ x0 := by omega
    have y1 : x0 ≤ 17 := by omega
    have y2 : 0 ≤ x1 := by omega
    have y3 : x1 < 256 := by omega
    have y4 : 0 ≤ x2 := by omega
    have y5 : x2 < 256 := by omega
    have hor1 := hide (or_16 x0 (x1 * 256) y0 (by omega) (by omega) (by omega))
    have hor2 := hide (or_8 (x0 * 256 + x1) x2 (by omega) (by omega) y4 y5)
    have hsum : (x0 * 256 + x1) * 256 + x2 = (r : Int) + 1 := by omega
    have Hsum := hide hsum
    have Hd3 := hide hd3
    have Ht := hide ht
    have Hv := hide hv
    clear hx0 hx1 hx2 hsum hd3 ht hv
    have c0 : C wr b (o + (1 + 3 * k)) (.int .u8 x0) := c0
    generalize hj : 1 + 3 * k = j at *
    clear hm
    have Hor : Hid (bits BinOp.or IntKind.i32 (bits BinOp.or IntKind.i32 (x0 * 65536) (x1 * 256)) x2 = (r : Int) + 1) := hide (by
      rw [hor1.out, show x0 * 65536 + x1 * 256 = (x0 * 256 + x1) * 256 by omega, hor2.out, Hsum.out])
    have hbD := below_drewN (Below.refl w.heap.size wr)
    go_wp2_with fail
    go_quiet (fail)
    rw [Hor.out]
    have HO2 : Hid ((wr.drewN nq).ownsRow (w.heap.size + 1) 21 1 (.slice A' k c') k (rns (rs.take k))) := hide HO.out
    have HB2 := hide (below_drewN HB.out nq)
    have hbs : w.heap.size + 1 ≤ (wr.drewN nq).heap.size := by simpa using HB2.out.size
    clear HO HB hR c0 c1 c2 hor1 hor2 Hor Hsum
    generalize wr.drewN nq = wq at *
    go_wp2_with fail
    refine (Tryz.utf8_ValidRune _ _).mono ?_
    rintro e w' ⟨rfl, rfl⟩
    rw [Hv.out]
    go_wp2_with (at_builtin; refine wp_lit r32T rfl rfl HO2.out rfl rfl (by simp) (by rfl) (by simp [Value.oneCell']) (by omega) (by omega) hbs ?_; intro A2 c2 w3 hown3 hb3 hg3)
    go_roundw
    case rel => exact ⟨_, _, _, ⟨k + 1, hlt, rfl, A2, c2, rfl, Hd3, hide (by rw [Ht.out]; simpa [rns] using hown3), hide (HB2.out.trans hb3)⟩, rfl, rfl, by rw [← hj]; congr 1⟩
    case measure => simp [intOf]; omega
theorem runes_back : ∀ (n : Nat) (l : List UInt8), l.length ≤ n → Lib.validD l = true → (runesL l).flatMap (fun r : Nat => Lib.encodeRune ((r : Nat) : Int)) = l
  | 0, l, h, _ => by
    have : l = [] := List.eq_nil_of_length_eq_zero (by omega)
    subst this; rfl
  | n + 1, l, h, hv => by
    by_cases hl : l = []
    · subst hl; rfl
    rw [Lib.validD_step l hl] at hv
    split at hv
    · cases hv
    rename_i hb
    have hp : 0 < l.length := List.length_pos_iff.2 hl
    have hw := Lib.decodeL_width l
    rw [runesL_step l hl, List.flatMap_cons, Lib.encode_decode l hl hb, runes_back n _ (by simp; omega) hv, List.take_append_drop]
theorem decode_valid (l : List UInt8) : Lib.validRune (((Lib.decodeL l).1 : Nat) : Int) = true := by
  rw [Lib.decodeL_N]
  simp only [Lib.validRune, decide_eq_true_eq]
  rcases Lib.decodeN_shape l.length (l.getD 0 0).toNat (l.getD 1 0).toNat (l.getD 2 0).toNat (l.getD 3 0).toNat with h | h | h | h | h
  · rw [h.2]; simp only; omega
  · rw [h.2.2.2.2]; simp only; omega
  · rw [h.2.2.2.2.2.2]; simp only; omega
  · rw [h.2.2.2.2.2.2.2]; simp only; omega
  rw [h]; simp only; omega
theorem runesL_valid : ∀ (n : Nat) (l : List UInt8), l.length ≤ n → ∀ r : Nat, r ∈ runesL l → Lib.validRune ((r : Nat) : Int) = true
  | 0, l, h => by
    have : l = [] := List.eq_nil_of_length_eq_zero (by omega)
    subst this
    simp [runesL_nil]
  | n + 1, l, h => by
    by_cases hl : l = []
    · subst hl; simp [runesL_nil]
    rw [runesL_step l hl]
    have hp : 0 < l.length := List.length_pos_iff.2 hl
    have hw := Lib.decodeL_width l
    intro r hr
    rcases List.mem_cons.1 hr with rfl | hr
    · exact decode_valid l
    exact runesL_valid n (l.drop (Lib.decodeL l).2) (by simp; omega) r hr
theorem encode_eq (r : Nat) (h : Lib.validRune (r : Int) = true) : (Utf8.encode (r : Int)).data.toList = Lib.encodeRune (r : Int) := by
  have hr : r < 55296 ∨ (57343 < r ∧ r ≤ 1114111) := by
    simp only [Lib.validRune, decide_eq_true_eq] at h; omega
  have hv : Utf8.valid (r : Int) = true := by
    simp only [Utf8.valid, Bool.or_eq_true, Bool.and_eq_true, decide_eq_true_eq]
    omega
  unfold Utf8.encode
  simp only [hv, if_true, Int.toNat_natCast]
  by_cases h1 : r < 128
  · rw [if_pos h1, Lib.encodeRune, Lib.encodeRuneZ_one (by omega) (by omega)]
    simp [Nat.toUInt8]
  rw [if_neg h1]
  by_cases h2 : r < 2048
  · rw [if_pos h2, Lib.encodeRune, Lib.encodeRuneZ_two (by omega) (by omega)]
    simp only [List.map_cons, List.map_nil]
    rw [show ((192 : Int) + (r : Int) / 64).toNat = 192 + r / 64 by omega, show ((128 : Int) + (r : Int) % 64).toNat = 128 + r % 64 by omega]
  rw [if_neg h2]
  by_cases h3 : r < 65536
  · rw [if_pos h3, Lib.encodeRune, Lib.encodeRuneZ_three (by omega)]
    simp only [List.map_cons, List.map_nil]
    rw [show ((224 : Int) + (r : Int) / 4096).toNat = 224 + r / 4096 by omega, show ((128 : Int) + (r : Int) / 64 % 64).toNat = 128 + r / 64 % 64 by omega, show ((128 : Int) + (r : Int) % 64).toNat = 128 + r % 64 by omega]
  rw [if_neg h3, Lib.encodeRune, Lib.encodeRuneZ_four (by omega) (by omega)]
  simp only [List.map_cons, List.map_nil]
  rw [show ((240 : Int) + (r : Int) / 262144).toNat = 240 + r / 262144 by omega, show ((128 : Int) + (r : Int) / 4096 % 64).toNat = 128 + r / 4096 % 64 by omega, show ((128 : Int) + (r : Int) / 64 % 64).toNat = 128 + r / 64 % 64 by omega, show ((128 : Int) + (r : Int) % 64).toNat = 128 + r % 64 by omega]
theorem runesBytes_eq (l : List Nat) (h : ∀ r : Nat, r ∈ l → Lib.validRune ((r : Nat) : Int) = true) : (runesBytes (l.map fun r : Nat => ((r : Nat) : Int))).data.toList = l.flatMap fun r : Nat => Lib.encodeRune ((r : Nat) : Int) := by
  have key : ∀ (l : List Nat) (s : ByteArray), (∀ r : Nat, r ∈ l → Lib.validRune ((r : Nat) : Int) = true) → ((l.map fun r : Nat => ((r : Nat) : Int)).foldl (fun r n => r ++ Utf8.encode n) s).data.toList = s.data.toList ++ l.flatMap fun r : Nat => Lib.encodeRune ((r : Nat) : Int) := by
    intro l
    induction l with
    | nil => intro s _; simp
    | cons r l ih =>
      intro s h
      simp only [List.map_cons, List.foldl_cons, List.flatMap_cons]
      rw [ih _ (fun r hr => h r (List.mem_cons_of_mem _ hr)), ← encode_eq r (h r (by simp))]
      simp
  have := key l ByteArray.empty h
  simpa [runesBytes] using this
theorem runes_text (s : ByteArray) (h : Lib.validD s.data.toList = true) : runesBytes ((runesL s.data.toList).map fun r : Nat => ((r : Nat) : Int)) = s := by
  have h1 := runesBytes_eq (runesL s.data.toList) (runesL_valid _ _ (Nat.le_refl _))
  rw [runes_back _ _ (Nat.le_refl _) h] at h1
  cases s with
  | mk d =>
    generalize runesBytes _ = x at *
    cases x with
    | mk y => congr 1; exact Array.toList_inj.1 h1
def okV (v : V) : Prop := rightV v = 0 ∧ wf64 v.n ∧ v.s.size ≤ 4000000
theorem RB.head {w : World} {A : Option Addr} {n : Nat} {x : UInt8} {l : List UInt8} (h : RB w A n (x :: l)) : ∃ b o, A = some ⟨b, o, none⟩ ∧ C w b o (.int .u8 (x.toNat : Int)) := by
  obtain ⟨b, o, hA, hc⟩ := h.at_ 0 (by rw [← h.len]; simp)
  exact ⟨b, o, hA, hc⟩
set_option maxHeartbeats 800000 in
set_option maxRecDepth 1000000 in
theorem one_nothing (A : Option Addr) (n c : Nat) (rest : List UInt8) (w : World) (h : RB w A n (1 :: rest)) :
    Calls Tryz.prog 127 #[.slice A n c] w fun e w' => e = .returned (.tuple #[.agg #[.int .i64 0, .int .i64 0, .string ⟨#[]⟩], .int .i64 1]) ∧ Below w.heap.size w w' := by
  have hl := h.len
  obtain ⟨b, o, rfl, h0⟩ := h.head
  simp only [List.length_cons] at hl
  have h0 : C w b o (.int .u8 1) := h0
  have g0 := h0.alloc (.cells #[.int .i64 0, .int .i64 0, .string ⟨#[]⟩] 28)
  clear h h0
  go_enter Tryz.func127, Tryz.ntmps127
  go_wp2
  refine bodyPost_ret (v := .tuple #[.agg #[.int .i64 0, .int .i64 0, .string ⟨#[]⟩], .int .i64 1]) (by simp [results, Tryz.results127, go_sem]) rfl ?_
  exact ⟨rfl, (Below.refl _ _).alloc (Nat.le_refl _) _⟩
set_option maxHeartbeats 800000 in
set_option maxRecDepth 1000000 in
theorem one_bool (A : Option Addr) (n c : Nat) (x : Nat) (hx : x ≤ 1) (rest : List UInt8) (w : World) (h : RB w A n (4 :: UInt8.ofNat x :: rest)) :
    Calls Tryz.prog 127 #[.slice A n c] w fun e w' => e = .returned (.tuple #[.agg #[.int .i64 3, .int .i64 x, .string ⟨#[]⟩], .int .i64 2]) ∧ Below w.heap.size w w' := by
  have hl := h.len
  obtain ⟨b, o, rfl, h0⟩ := h.head
  have h1 : ∃ b' o', some (⟨b, o, none⟩ : Addr) = some ⟨b', o', none⟩ ∧ C w b' (o' + 1) (.int .u8 x) := by
    obtain ⟨b', o', hA, hc⟩ := h.at_ 1 (by rw [← h.len]; simp)
    refine ⟨b', o', hA, ?_⟩
    have : ((UInt8.ofNat x).toNat : Int) = x := by rw [ofNat_cell]; omega
    rw [← this]; exact hc
  obtain ⟨b', o', hA, h1⟩ := h1
  cases hA
  simp only [List.length_cons] at hl
  have h0 : C w b o (.int .u8 4) := h0
  have g0 := h0.alloc (.cells #[.int .i64 0, .int .i64 0, .string ⟨#[]⟩] 28)
  have g1 := h1.alloc (.cells #[.int .i64 0, .int .i64 0, .string ⟨#[]⟩] 28)
  clear h h0 h1
  have hx2 : (x : Int) ≤ 1 := by omega
  go_enter Tryz.func127, Tryz.ntmps127
  go_wp2
  refine bodyPost_ret (v := .tuple #[.agg #[.int .i64 3, .int .i64 x, .string ⟨#[]⟩], .int .i64 2]) (by simp [results, Tryz.results127, go_sem]) rfl ?_
  exact ⟨rfl, (Below.refl _ _).alloc (Nat.le_refl _) _⟩
set_option maxHeartbeats 800000 in
set_option maxRecDepth 1000000 in
theorem one_text (A : Option Addr) (n c : Nat) (rs : List Nat) (rest : List UInt8) (w : World) (h : RB w A n (3 :: (g3 rs ++ ([0, 0, 0] ++ rest)))) (hr : ∀ r ∈ rs, Lib.validRune ((r : Nat) : Int) = true) (hn : n ≤ 100000000) :
    Calls Tryz.prog 127 #[.slice A n c] w fun e w' => e = .returned (.tuple #[.agg #[.int .i64 2, .int .i64 0, .string (runesBytes (rs.map fun r : Nat => ((r : Nat) : Int)))], .int .i64 (1 + 3 * rs.length + 3 : Nat)]) ∧ Below w.heap.size w w' := by
  have hcon := text_any A n c rs rest (w.alloc (.cells #[.int .i64 0, .int .i64 0, .string ⟨#[]⟩] 28)) (h.alloc _) hr hn
  have hl := h.len
  obtain ⟨b, o, rfl, h0⟩ := h.head
  have h0 : C w b o (.int .u8 3) := h0
  have g0 := h0.alloc (.cells #[.int .i64 0, .int .i64 0, .string ⟨#[]⟩] 28)
  have hlp : 0 < n := by rw [← hl]; simp
  clear h h0 hl hr
  generalize hj : 1 + 3 * rs.length + 3 = j at *
  generalize runesBytes (rs.map fun r : Nat => ((r : Nat) : Int)) = Q at *
  have d0 := C.new w #[.int .i64 0, .int .i64 0, .string ⟨#[]⟩] 28 0 (v := .int .i64 0) rfl
  have d1 := C.new w #[.int .i64 0, .int .i64 0, .string ⟨#[]⟩] 28 1 (v := .int .i64 0) rfl
  have d2 := C.new w #[.int .i64 0, .int .i64 0, .string ⟨#[]⟩] 28 2 (v := .string ⟨#[]⟩) rfl
  have f0 := World.frozen?_alloc_new w #[.int .i64 0, .int .i64 0, .string ⟨#[]⟩] 28 0
  have f1 := World.frozen?_alloc_new w #[.int .i64 0, .int .i64 0, .string ⟨#[]⟩] 28 1
  have f2 := World.frozen?_alloc_new w #[.int .i64 0, .int .i64 0, .string ⟨#[]⟩] 28 2
  go_enter Tryz.func127, Tryz.ntmps127
  go_wp2_with fail
  refine hcon.mono ?_
  rintro e w1 ⟨rfl, hb⟩
  have d0 := d0.below hb
  have d1 := d1.below hb
  have d2 := d2.below hb
  have f0 := (hb.frozen (p := ⟨w.heap.size, 0, none⟩) (by simp)).trans f0
  have f1 := (hb.frozen (p := ⟨w.heap.size, 1, none⟩) (by simp)).trans f1
  have f2 := (hb.frozen (p := ⟨w.heap.size, 2, none⟩) (by simp)).trans f2
  have hb := below_chain ((Below.refl _ _).alloc (Nat.le_refl _) _) hb
  go_wp2
  refine bodyPost_ret (v := .tuple #[.agg #[.int .i64 2, .int .i64 0, .string Q], .int .i64 j]) (by simp [results, Tryz.results127, go_sem, d0, d1, d2]) rfl ?_
  exact ⟨rfl, ((hb.setCell (Nat.le_refl _) _).setCell (Nat.le_refl _) _).setCell (Nat.le_refl _) _⟩
theorem eight_at (u k : Nat) (hk : k < 8) : (eightB u)[k]? = some (UInt8.ofNat (u / 2 ^ (56 - 8 * k))) := by
  simp [eightB, hk]
theorem q_step (u k : Nat) (hk : k < 8) : u / 2 ^ (64 - 8 * k) = u / 2 ^ (56 - 8 * k) / 256 := by
  rw [Nat.div_div_eq_div_mul, show (256 : Nat) = 2 ^ 8 from rfl, ← Nat.pow_add, show 56 - 8 * k + 8 = 64 - 8 * k by omega]
theorem q_or (q : Nat) (h : q < 18446744073709551616) : bits BinOp.or IntKind.u64 (((q / 256 : Nat) : Int) * 256) ((q : Int) % 256) = (q : Int) := by
  have := bits_join .u64 64 (by decide) (by intro n h0 h1; rw [IntKind.wrap_u64]; omega) 8 (((q / 256 : Nat) : Int) * 256) ((q : Int) % 256) (by omega) (by omega) (by omega) (by omega) (by omega) (by omega)
  rw [this]; omega
theorem xor_back (x : Int) (h : wf64 x) : wrap64 (bits BinOp.xor IntKind.u64 (x + 9223372036854775808) 9223372036854775808) = x := by
  unfold wf64 at h
  obtain ⟨u, hu⟩ := Int.eq_ofNat_of_zero_le (show 0 ≤ x + 9223372036854775808 by omega)
  have hlt : u < 18446744073709551616 := by omega
  have := bits_xor_u64_nat u 9223372036854775808 hlt (by decide)
  rw [hu]
  rw [show ((9223372036854775808 : Nat) : Int) = 9223372036854775808 from rfl] at this
  rw [this, xor_pow63 u hlt]
  simp only [wrap64]
  split <;> omega
set_option maxHeartbeats 800000 in
set_option maxRecDepth 1000000 in
theorem one_int (A : Option Addr) (n c : Nat) (x : Int) (hx : wf64 x) (rest : List UInt8) (w : World) (h : RB w A n (2 :: (eightB (x + 9223372036854775808).toNat ++ rest))) (hnc : n ≤ c) :
    Calls Tryz.prog 127 #[.slice A n c] w fun e w' => e = .returned (.tuple #[.agg #[.int .i64 1, .int .i64 x, .string ⟨#[]⟩], .int .i64 9]) ∧ Below w.heap.size w w' := by
  obtain ⟨u, hu⟩ : ∃ u : Nat, (x + 9223372036854775808).toNat = u := ⟨_, rfl⟩
  have hx' := hx
  unfold wf64 at hx'
  have hu1 : u < 18446744073709551616 := by omega
  have hu2 : (u : Int) = x + 9223372036854775808 := by omega
  rw [hu] at h
  have hl := h.len
  have hl9 : 9 ≤ n := by rw [← hl]; simp [eightB]
  obtain ⟨b, o, rfl, h0⟩ := h.head
  have hc : ∀ k, k < 8 → C w b (o + (1 + k)) (.int .u8 ((u / 2 ^ (56 - 8 * k) : Nat) % 256 : Int)) := by
    intro k hk
    obtain ⟨b', o', hA, hc⟩ := h.at_ (1 + k) (by omega)
    cases hA
    have e : ((2 : UInt8) :: (eightB u ++ rest))[1 + k]? = some (UInt8.ofNat (u / 2 ^ (56 - 8 * k))) := by
      rw [Nat.add_comm, List.getElem?_cons_succ, List.getElem?_append_left (by simp [eightB]; omega), eight_at u k hk]
    obtain ⟨h1, h2⟩ := List.getElem?_eq_some_iff.1 e
    rw [h2, ofNat_cell] at hc
    exact hc
  have h0 : C w b o (.int .u8 2) := h0
  have g0 := h0.alloc (.cells #[.int .i64 0, .int .i64 0, .string ⟨#[]⟩] 28)
  have gc : ∀ k, k < 8 → C (w.alloc (.cells #[.int .i64 0, .int .i64 0, .string ⟨#[]⟩] 28)) b (o + (1 + k)) (.int .u8 ((u / 2 ^ (56 - 8 * k) : Nat) % 256 : Int)) := fun k hk => (hc k hk).alloc _
  have Gc := hide gc
  have Hx := hide hx
  clear h h0 hc gc hl hx'
  go_enter Tryz.func127, Tryz.ntmps127
  go_wp2_with fail
  go_loopw [4, 47] (fun a i wr => ∃ k : Nat, k ≤ 8 ∧ i = .int .i64 k ∧ a = .int .u64 (u / 2 ^ (64 - 8 * k) : Nat) ∧ wr = w.alloc (.cells #[.int .i64 0, .int .i64 0, .string ⟨#[]⟩] 28)) (fun _ i _ => 8 - (intOf i).toNat)
  case atStart => exact ⟨0, by omega, rfl, by simp; omega, rfl⟩
  case round =>
    obtain ⟨k, hk, rfl, rfl, rfl⟩ := hrel
    by_cases hlt : k < 8
    · have g1 := Gc.out k hlt
      rw [← Nat.add_assoc] at g1
      have hq := q_step u k hlt
      rw [hq]
      have hqlt : u / 2 ^ (56 - 8 * k) < 18446744073709551616 := Nat.lt_of_le_of_lt (Nat.div_le_self _ _) hu1
      have hq2 : u / 2 ^ (64 - 8 * (k + 1)) = u / 2 ^ (56 - 8 * k) := by rw [show 64 - 8 * (k + 1) = 56 - 8 * k by omega]
      have Hq2 := hide hq2
      clear hq2 hq
      generalize u / 2 ^ (56 - 8 * k) = q at *
      have Ho : Hid (bits BinOp.or IntKind.u64 ((q : Int) / 256 * 256) ((q : Int) % 256) = (q : Int)) := hide (by have := q_or q hqlt; rw [Int.natCast_ediv] at this; exact this)
      go_wp2
      go_roundw
      case rel => exact ⟨k + 1, hlt, by go_num, by rw [Ho.out, Hq2.out], trivial⟩
      case measure => simp [intOf]; omega
    have : k = 8 := by omega
    subst this
    go_wp2
    have hxb := xor_back x Hx.out
    rw [hxb]
    refine bodyPost_ret (v := .tuple #[.agg #[.int .i64 1, .int .i64 x, .string ⟨#[]⟩], .int .i64 9]) (by simp [results, Tryz.results127, go_sem]) rfl ?_
    exact ⟨rfl, (Below.refl _ _).alloc (Nat.le_refl _) _⟩
theorem one_any (A : Option Addr) (n c : Nat) (v : V) (hv : okV v) (rest : List UInt8) (w : World) (h : RB w A n (keyV v ++ rest)) (hnc : n ≤ c) (hn : n ≤ 100000000) :
    Calls Tryz.prog 127 #[.slice A n c] w fun e w' => e = .returned (.tuple #[v.val, .int .i64 (keyV v).length]) ∧ Below w.heap.size w w' := by
  obtain ⟨hr, hw, hs⟩ := hv
  obtain ⟨k, x, s⟩ := v
  have hemp : s.data.toList = [] → s = ⟨#[]⟩ := by
    intro h
    cases s with
    | mk d => congr 1; exact Array.toList_inj.1 (by simpa using h)
  rcases right_kinds hr with ⟨h0, h1, h2⟩ | ⟨h0, h2⟩ | ⟨h0, h1, h2⟩ | ⟨h0, h1, h2⟩
  · obtain rfl : k = 0 := h0
    obtain rfl : x = 0 := h1
    obtain rfl := hemp h2
    exact one_nothing A n c rest w h
  · obtain rfl : k = 1 := h0
    obtain rfl := hemp h2
    exact (one_int A n c x hw rest w h hnc).mono fun e w' h => ⟨by rw [h.1]; rfl, h.2⟩
  · obtain rfl : k = 2 := h0
    obtain rfl : x = 0 := h1
    have hkey : keyV ⟨2, 0, s⟩ = 3 :: (g3 (runesL s.data.toList) ++ [0, 0, 0]) := rfl
    rw [hkey] at h
    refine (one_text A n c (runesL s.data.toList) rest w (by simpa using h) (runesL_valid _ _ (Nat.le_refl _)) hn).mono fun e w' h => ⟨?_, h.2⟩
    have e2 : (keyV ⟨2, 0, s⟩).length = 1 + 3 * (runesL s.data.toList).length + 3 := by
      rw [hkey]; simp only [List.length_cons, List.length_append, g3_len, List.length_nil]; omega
    rw [h.1, runes_text s h2, e2]
  obtain rfl : k = 3 := h0
  obtain rfl := hemp h2
  have h1 : x = 0 ∨ x = 1 := h1
  obtain ⟨m, rfl⟩ := Int.eq_ofNat_of_zero_le (show 0 ≤ x by omega)
  exact (one_bool A n c m (by omega) rest w h).mono fun e w' h => ⟨by rw [h.1]; rfl, h.2⟩
theorem V.cells_len (v : V) : v.cells.length = 3 := rfl
theorem keyV_pos (v : V) : 0 < (keyV v).length := by
  unfold keyV
  repeat' split
  all_goals simp
theorem valT : SlT Tryz.prog 33 28 3 32 := ⟨by
  obtain ⟨i, hi, hz0, hz1, hz2⟩ := info_parts (P := Tryz.prog) (e := 28) (z := .agg #[.int .i64 0, .int .i64 0, .string ⟨#[]⟩]) (size := 3) (bytes := 32) (by kernel_rfl)
  exact ⟨i, _, Tryz.underlying33, hi, hz0, hz1, hz2, rfl, by omega⟩⟩
theorem rowCells_one (l : List V) : ∀ u ∈ rowCells l, u.oneCell' = true := by
  intro u hu
  simp only [rowCells, List.mem_flatMap] at hu
  obtain ⟨v, _, hu⟩ := hu
  simp only [V.cells, List.mem_cons, List.mem_nil_iff, or_false] at hu
  rcases hu with rfl | rfl | rfl <;> rfl
theorem cmpB_refl : ∀ a : List UInt8, cmpB a a = 0
  | [] => rfl
  | x :: a => by simp [cmpB, UInt8.lt_irrefl, cmpB_refl a]
theorem u8_tri (x y : UInt8) : x < y ∨ x = y ∨ y < x := by
  rcases Nat.lt_trichotomy x.toNat y.toNat with h | h | h
  · exact .inl (UInt8.lt_iff_toNat_lt.2 h)
  · exact .inr (.inl (UInt8.toNat_inj.1 h))
  exact .inr (.inr (UInt8.lt_iff_toNat_lt.2 h))
theorem u8_asymm {x y : UInt8} (h : x < y) : ¬ y < x := by
  have := UInt8.lt_iff_toNat_lt.1 h
  intro h2
  have := UInt8.lt_iff_toNat_lt.1 h2
  omega
theorem u8_trans {x y z : UInt8} (h : x < y) (k : y < z) : x < z := by
  have := UInt8.lt_iff_toNat_lt.1 h
  have := UInt8.lt_iff_toNat_lt.1 k
  exact UInt8.lt_iff_toNat_lt.2 (by omega)
theorem cmpB_swap : ∀ a b : List UInt8, cmpB b a = - cmpB a b
  | [], [] => rfl
  | [], _ :: _ => rfl
  | _ :: _, [] => rfl
  | x :: a, y :: b => by
    simp only [cmpB]
    rcases u8_tri x y with h | h | h
    · simp [h, u8_asymm h]
    · subst h; simp [UInt8.lt_irrefl, cmpB_swap a b]
    simp [h, u8_asymm h]
theorem cmpB_zero : ∀ {a b : List UInt8}, cmpB a b = 0 → a = b
  | [], [], _ => rfl
  | [], _ :: _, h => by simp [cmpB] at h
  | _ :: _, [], h => by simp [cmpB] at h
  | x :: a, y :: b, h => by
    simp only [cmpB] at h
    rcases u8_tri x y with k | k | k
    · simp [k] at h
    · subst k; simp only [UInt8.lt_irrefl, if_false] at h; rw [cmpB_zero h]
    simp [k, u8_asymm k] at h
theorem cmpB_trans : ∀ {a b c : List UInt8}, cmpB a b < 0 → cmpB b c < 0 → cmpB a c < 0
  | [], [], _, h, _ => by simp [cmpB] at h
  | [], _ :: _, [], _, k => by simp [cmpB] at k
  | [], _ :: _, _ :: _, _, _ => by simp [cmpB]
  | _ :: _, [], _, h, _ => by simp [cmpB] at h
  | _ :: _, _ :: _, [], _, k => by simp [cmpB] at k
  | x :: a, y :: b, z :: c, h, k => by
    simp only [cmpB] at h k ⊢
    rcases u8_tri x y with h1 | h1 | h1
    · rcases u8_tri y z with k1 | k1 | k1
      · simp [u8_trans h1 k1]
      · subst k1; simp [h1]
      simp [k1, u8_asymm k1] at k
    · subst h1
      simp only [UInt8.lt_irrefl, if_false] at h
      rcases u8_tri x z with k1 | k1 | k1
      · simp [k1]
      · subst k1
        simp only [UInt8.lt_irrefl, if_false] at k ⊢
        exact cmpB_trans h k
      simp [k1, u8_asymm k1] at k
    simp [h1, u8_asymm h1] at h
theorem cmpB_three (a b : List UInt8) : cmpB a b = -1 ∨ cmpB a b = 0 ∨ cmpB a b = 1 := by
  induction a generalizing b with
  | nil => cases b <;> simp [cmpB]
  | cons x a ih =>
    cases b with
    | nil => simp [cmpB]
    | cons y b =>
      simp only [cmpB]
      split
      · simp
      split
      · simp
      exact ih b
theorem cmpB_append (p a b : List UInt8) : cmpB (p ++ a) (p ++ b) = cmpB a b := by
  induction p with
  | nil => rfl
  | cons x p ih => simp [cmpB, UInt8.lt_irrefl, ih]
theorem cmpB_nil_le (a : List UInt8) : cmpB [] a ≤ 0 := by cases a <;> simp [cmpB]
theorem cmpB_pre (p x : List UInt8) : cmpB p (p ++ x) ≤ 0 := by
  have := cmpB_append p [] x
  rw [List.append_nil] at this
  rw [this]; exact cmpB_nil_le x
theorem cmpB_lt_le {a b c : List UInt8} (h : cmpB a b < 0) (k : cmpB b c ≤ 0) : cmpB a c < 0 := by
  rcases Int.lt_or_eq_of_le k with k | k
  · exact cmpB_trans h k
  rw [← cmpB_zero k]; exact h
theorem cmpB_le_trans {a b c : List UInt8} (h : cmpB a b ≤ 0) (k : cmpB b c ≤ 0) : cmpB a c ≤ 0 := by
  rcases Int.lt_or_eq_of_le h with h | h
  · exact Int.le_of_lt (cmpB_lt_le h k)
  rw [cmpB_zero h]; exact k
theorem cmpB_head {x y : UInt8} (h : x < y) (a b : List UInt8) : cmpB (x :: a) (y :: b) = -1 := by simp [cmpB, h]
def be : Nat → Nat → List UInt8
  | 0, _ => []
  | n + 1, u => UInt8.ofNat (u / 256 ^ n) :: be n u
theorem be_len (n u : Nat) : (be n u).length = n := by induction n with
  | zero => rfl
  | succ n ih => simp [be, ih]
theorem eightB_be (u : Nat) : eightB u = be 8 u := by
  simp [eightB, be, List.range_succ]
theorem u8n (x : Nat) : (UInt8.ofNat x).toNat = x % 256 := by simp
theorem be_mod (n u : Nat) : be n (u % 256 ^ n) = be n u := by
  have key : ∀ m, n ≤ m → be n (u % 256 ^ m) = be n u := by
    induction n with
    | zero => intro m _; rfl
    | succ n ih =>
      intro m hm
      simp only [be]
      rw [ih m (by omega)]
      congr 1
      apply UInt8.toNat_inj.1
      rw [u8n, u8n]
      obtain ⟨k, rfl⟩ : ∃ k, m = n + 1 + k := ⟨m - (n + 1), by omega⟩
      rw [show 256 ^ (n + 1 + k) = 256 ^ n * (256 * 256 ^ k) by rw [Nat.pow_add, Nat.pow_succ, Nat.mul_assoc], Nat.mod_mul_right_div_self, Nat.mod_mul_right_mod]
  exact key n (Nat.le_refl n)
theorem be_lt : ∀ (n u v : Nat) (x y : List UInt8), u < 256 ^ n → v < 256 ^ n → u < v → cmpB (be n u ++ x) (be n v ++ y) = -1
  | 0, u, v, _, _, h1, h2, h => by simp at h1 h2; omega
  | n + 1, u, v, x, y, h1, h2, h => by
    have hp : 0 < 256 ^ n := Nat.pow_pos (by omega)
    have e1 : u / 256 ^ n < 256 := by rw [Nat.div_lt_iff_lt_mul hp]; rw [Nat.pow_succ, Nat.mul_comm] at h1; exact h1
    have e2 : v / 256 ^ n < 256 := by rw [Nat.div_lt_iff_lt_mul hp]; rw [Nat.pow_succ, Nat.mul_comm] at h2; exact h2
    have hle : u / 256 ^ n ≤ v / 256 ^ n := Nat.div_le_div_right (Nat.le_of_lt h)
    simp only [be, List.cons_append]
    rcases Nat.lt_or_eq_of_le hle with hl | hl
    · exact cmpB_head (UInt8.lt_iff_toNat_lt.2 (by rw [u8n, u8n, Nat.mod_eq_of_lt e1, Nat.mod_eq_of_lt e2]; exact hl)) _ _
    rw [hl]
    simp only [cmpB, UInt8.lt_irrefl, if_false]
    rw [← be_mod n u, ← be_mod n v]
    refine be_lt n _ _ x y (Nat.mod_lt _ hp) (Nat.mod_lt _ hp) ?_
    have a1 := Nat.div_add_mod u (256 ^ n)
    have a2 := Nat.div_add_mod v (256 ^ n)
    rw [hl] at a1
    omega
theorem be_inj {n u v : Nat} (h1 : u < 256 ^ n) (h2 : v < 256 ^ n) (h : be n u = be n v) : u = v := by
  rcases Nat.lt_trichotomy u v with k | k | k
  · have := be_lt n u v [] [] h1 h2 k
    rw [h, cmpB_refl] at this; omega
  · exact k
  have := be_lt n v u [] [] h2 h1 k
  rw [h, cmpB_refl] at this; omega
theorem three_be (n : Nat) : three n = be 3 n := by simp [three, be]
theorem g3_free : ∀ (a b : List Nat) (x y : List UInt8), (∀ r ∈ a, r ≤ 1114111) → (∀ r ∈ b, r ≤ 1114111) → g3 a ++ ([0, 0, 0] ++ x) = g3 b ++ ([0, 0, 0] ++ y) → a = b ∧ x = y
  | [], [], x, y, _, _, h => by simpa [g3] using h
  | [], r :: b, x, y, _, hb, h => by
    exfalso
    have hr := hb r (by simp)
    simp only [g3, List.flatMap_nil, List.nil_append, List.flatMap_cons, three, List.cons_append, List.cons.injEq] at h
    have h0 := congrArg UInt8.toNat h.1
    have h1 := congrArg UInt8.toNat h.2.1
    have h2 := congrArg UInt8.toNat h.2.2.1
    simp only [u8n] at h0 h1 h2
    simp at h0 h1 h2
    omega
  | r :: a, [], x, y, ha, _, h => by
    exfalso
    have hr := ha r (by simp)
    simp only [g3, List.flatMap_nil, List.nil_append, List.flatMap_cons, three, List.cons_append, List.cons.injEq] at h
    have h0 := congrArg UInt8.toNat h.1
    have h1 := congrArg UInt8.toNat h.2.1
    have h2 := congrArg UInt8.toNat h.2.2.1
    simp only [u8n] at h0 h1 h2
    simp at h0 h1 h2
    omega
  | r :: a, q :: b, x, y, ha, hb, h => by
    have hr := ha r (by simp)
    have hq := hb q (by simp)
    simp only [g3, List.flatMap_cons, List.append_assoc] at h
    rw [three_be, three_be] at h
    have hs := List.append_inj h (by rw [be_len, be_len])
    have he := be_inj (n := 3) (u := r + 1) (v := q + 1) (by omega) (by omega) hs.1
    have ih := g3_free a b x y (fun r h => ha r (by simp [h])) (fun r h => hb r (by simp [h])) hs.2
    exact ⟨by rw [ih.1]; congr 1; omega, ih.2⟩
theorem runesB_g3 (s : ByteArray) : runesB s = g3 (runesL s.data.toList) ++ [0, 0, 0] := rfl
theorem text_inj {a b : ByteArray} (ha : Lib.validD a.data.toList = true) (hb : Lib.validD b.data.toList = true) (h : runesL a.data.toList = runesL b.data.toList) : a = b := by
  rw [← runes_text a ha, ← runes_text b hb, h]
theorem empty_text {s : ByteArray} (h : s.data.toList = []) : s = ⟨#[]⟩ := by
  cases s with
  | mk d => simp at h; rw [h]
theorem V.ext_ {a b : V} (h1 : a.k = b.k) (h2 : a.n = b.n) (h3 : a.s = b.s) : a = b := by
  cases a; cases b; simp_all
theorem keyV_head (v : V) (h : rightV v = 0) : ∃ t, keyV v = UInt8.ofNat (v.k.toNat + 1) :: t ∧ 0 ≤ v.k ∧ v.k ≤ 3 := by
  rcases right_kinds h with ⟨h0, _⟩ | ⟨h0, _⟩ | ⟨h0, _⟩ | ⟨h0, _⟩ <;> simp [keyV, h0]
theorem keyV_free {a b : V} {x y : List UInt8} (ha : okV a) (hb : okV b) (h : keyV a ++ x = keyV b ++ y) : a = b ∧ x = y := by
  have hk : a.k = b.k := by
    obtain ⟨t, e1, p1, p2⟩ := keyV_head a ha.1
    obtain ⟨u, e2, q1, q2⟩ := keyV_head b hb.1
    rw [e1, e2] at h
    simp only [List.cons_append, List.cons.injEq] at h
    have := congrArg UInt8.toNat h.1
    rw [u8n, u8n] at this
    omega
  rcases right_kinds ha.1 with ⟨a0, a1, a2⟩ | ⟨a0, a2⟩ | ⟨a0, a1, a2⟩ | ⟨a0, a1, a2⟩
  · rcases right_kinds hb.1 with ⟨b0, b1, b2⟩ | ⟨b0, b2⟩ | ⟨b0, b1, b2⟩ | ⟨b0, b1, b2⟩ <;> try omega
    simp only [keyV, a0, b0, if_true, List.cons_append, List.nil_append, List.cons.injEq, true_and] at h
    exact ⟨V.ext_ hk (by omega) (by rw [empty_text a2, empty_text b2]), h⟩
  · rcases right_kinds hb.1 with ⟨b0, b1, b2⟩ | ⟨b0, b2⟩ | ⟨b0, b1, b2⟩ | ⟨b0, b1, b2⟩ <;> try omega
    have w1 := ha.2.1
    have w2 := hb.2.1
    simp only [wf64] at w1 w2
    simp [keyV, a0, b0, eightB_be] at h
    have hs := List.append_inj h (by rw [be_len, be_len])
    have he := be_inj (n := 8) (by omega) (by omega) hs.1
    exact ⟨V.ext_ hk (by omega) (by rw [empty_text a2, empty_text b2]), hs.2⟩
  · rcases right_kinds hb.1 with ⟨b0, b1, b2⟩ | ⟨b0, b2⟩ | ⟨b0, b1, b2⟩ | ⟨b0, b1, b2⟩ <;> try omega
    simp only [keyV, a0, b0, runesB_g3, List.cons_append, List.append_assoc] at h
    simp only [show ¬ ((2 : Int) = 0) by omega, show ¬ ((2 : Int) = 3) by omega, show ¬ ((2 : Int) = 1) by omega, if_false, List.cons_append, List.cons.injEq, true_and, List.append_assoc] at h
    have hs := g3_free _ _ x y (runesL_rune _ _ (Nat.le_refl _)) (runesL_rune _ _ (Nat.le_refl _)) h
    exact ⟨V.ext_ hk (by omega) (text_inj a2 b2 hs.1), hs.2⟩
  rcases right_kinds hb.1 with ⟨b0, b1, b2⟩ | ⟨b0, b2⟩ | ⟨b0, b1, b2⟩ | ⟨b0, b1, b2⟩ <;> try omega
  simp only [keyV, a0, b0] at h
  simp only [show ¬ ((3 : Int) = 0) by omega, if_false, if_true, List.cons_append, List.nil_append, List.cons.injEq, true_and] at h
  have := congrArg UInt8.toNat h.1
  rw [u8n, u8n] at this
  exact ⟨V.ext_ hk (by omega) (by rw [empty_text a2, empty_text b2]), h.2⟩
theorem keyV_inj {a b : V} (ha : okV a) (hb : okV b) (h : keyV a = keyV b) : a = b := (keyV_free (x := []) (y := []) ha hb (by rw [h])).1
theorem keyV_int_lt {a b : Int} (ha : wf64 a) (hb : wf64 b) (h : a < b) (s t : ByteArray) (x y : List UInt8) : cmpB (keyV ⟨1, a, s⟩ ++ x) (keyV ⟨1, b, t⟩ ++ y) = -1 := by
  simp only [wf64] at ha hb
  simp [keyV, eightB_be, cmpB]
  exact be_lt 8 _ _ x y (by omega) (by omega) (by omega)
theorem keyV_bounds (v : V) (h : rightV v = 0) : ∃ (b : UInt8) (t : List UInt8), keyV v = b :: t ∧ 1 ≤ b.toNat ∧ b.toNat ≤ 4 := by
  obtain ⟨t, e, h0, h3⟩ := keyV_head v h
  exact ⟨_, t, e, by rw [u8n]; omega, by rw [u8n]; omega⟩
theorem keyV_lt_255 (v : V) (h : rightV v = 0) (x y : List UInt8) : cmpB (keyV v ++ x) (255 :: y) < 0 := by
  obtain ⟨b, t, e, h1, h4⟩ := keyV_bounds v h
  rw [e]
  have : b < 255 := UInt8.lt_iff_toNat_lt.2 (by simp; omega)
  simp [cmpB, this]
theorem keyL_cons (v : V) (l : List V) : keyL (v :: l) = keyV v ++ keyL l := by simp [keyL]
def lenV : Value → Nat
  | .slice _ n _ => n
  | _ => 0
theorem RB.drop_ {w : World} {b o : Nat} {n : Nat} {x y : List UInt8} (h : RB w (some ⟨b, o, none⟩) n (x ++ y)) (m : Nat) (hm : m = n - x.length) : RB w (some ⟨b, o + x.length, none⟩) m y := by
  have hl := h.len
  rw [List.length_append] at hl
  have hy : y.length = m := by omega
  refine ⟨by simp [hy], ?_⟩
  by_cases h0 : m = 0
  · exact .inl h0
  obtain ⟨b', o', hA, hc⟩ := h.some_ (by omega)
  cases hA
  refine .inr ⟨b, _, rfl, fun j hj => ?_⟩
  simp only [bys_length] at hj
  rw [Nat.add_assoc, hc (x.length + j) (by simp; omega), bys_append, List.getElem?_append_right (by simp)]
  simp
set_option maxHeartbeats 1600000 in
set_option maxRecDepth 1000000 in
theorem read_any (A : Option Addr) (n c : Nat) (l : List V) (hv : ∀ v ∈ l, okV v) (w : World) (h : RB w A n (keyL l)) (hnc : n ≤ c) (hn : n ≤ 100000000) :
    Calls Tryz.prog 72 #[.slice A n c] w fun e w' => ∃ A' c', e = .returned (.tuple #[.slice A' l.length c', .int .i64 0]) ∧ w'.ownsRow w.heap.size 28 3 (.slice A' l.length c') l.length (rowCells l) ∧ Below w.heap.size w w' := by
  have H := hide h
  have Hv := hide hv
  have hlk : l.length ≤ n := by
    rw [← h.len]
    clear h hv H Hv
    induction l with
    | nil => simp
    | cons v l ih => rw [keyL_cons, List.length_append, List.length_cons]; have := keyV_pos v; omega
  clear h hv
  go_enter Tryz.func72, Tryz.ntmps72
  go_wp2_with fail
  go_loopw [0, 4] (fun b r wr => ∃ (k m d : Nat) (B : Option Addr) (A' : Option Addr) (c' : Nat), k ≤ l.length ∧ b = .slice B m d ∧ r = .slice A' k c' ∧ m ≤ d ∧ m ≤ n ∧ Hid (RB w B m (keyL (l.drop k))) ∧ Hid (wr.ownsRow w.heap.size 28 3 (.slice A' k c') k (rowCells (l.take k))) ∧ Hid (Below w.heap.size w wr)) (fun _ r _ => l.length - lenV r)
  case atStart => exact ⟨0, n, c, A, none, 0, Nat.zero_le _, rfl, rfl, hnc, Nat.le_refl _, by simpa using H, hide (World.ownsRow_nil _ _ 28 3), hide (Below.refl _ _)⟩
  case round =>
    obtain ⟨k, m, d, B, A', c', hk, rfl, rfl, hmd, hmn, HR, HO, HB⟩ := hrel
    by_cases hlt : k < l.length
    rotate_left
    · have hke : k = l.length := by omega
      subst hke
      have hm0 : m = 0 := by
        have := HR.out.len
        rw [List.drop_length] at this
        simpa [keyL] using this.symm
      subst hm0
      have HO2 := HO.out
      rw [List.take_length] at HO2
      go_wp2
      go_ret2
      exact ⟨A', c', rfl, HO2, HB.out⟩
    obtain ⟨v, hvv⟩ : ∃ v, l[k] = v := ⟨_, rfl⟩
    have hok := Hv.out v (by rw [← hvv]; exact List.getElem_mem _)
    have hd' : l.drop k = v :: l.drop (k + 1) := by rw [← hvv]; simp
    have ht : l.take (k + 1) = l.take k ++ [v] := by rw [← hvv]; simp
    have hR : RB w B m (keyV v ++ keyL (l.drop (k + 1))) := by have := HR.out; rwa [hd', keyL_cons] at this
    have hcon := one_any B m d v hok _ wr (hR.below HB.out) hmd (by omega)
    have hkp := keyV_pos v
    have hml : (keyV v).length ≤ m := by rw [← hR.len]; simp
    obtain ⟨b, o, rfl, _⟩ := hR.some_ (by omega)
    have hRd := fun mm hm => hR.drop_ mm hm
    have hRn : m - (keyV v).length = 0 → keyL (l.drop (k + 1)) = [] := fun h => by
      have h1 := hR.len
      rw [List.length_append] at h1
      exact List.eq_nil_of_length_eq_zero (by omega)
    have HRd := hide hRd
    have HRn := hide hRn
    have Ht := hide ht
    clear hRd hRn ht hd' hvv hok HR hR
    obtain ⟨vk, vn, vs⟩ := v
    have hvc : rowCells [⟨vk, vn, vs⟩] = [.int .i64 vk, .int .i64 vn, .string vs] := by simp [rowCells, V.cells]
    have hrc : rowCells (l.take (k + 1)) = rowCells (l.take k) ++ [.int .i64 vk, .int .i64 vn, .string vs] := by
      rw [Ht.out, ← hvc]; simp [rowCells]
    have Hrc := hide hrc
    clear hvc hrc
    generalize hkl : (keyV ⟨vk, vn, vs⟩).length = kl at *
    go_wp2_with fail
    refine hcon.mono ?_
    rintro e w1 ⟨rfl, hb1⟩
    have HO1 := hide ((own_below HO.out hb1).alloc (.cells #[.int .i64 vk, .int .i64 vn, .string vs] 28))
    have hb2 := (below_then HB.out HB.out.size hb1)
    have HB2 := hide (hb2.alloc hb2.size (.cells #[.int .i64 vk, .int .i64 vn, .string vs] 28))
    have hsz := HB2.out.size
    clear HO HB hb1 hb2 hcon
    by_cases hd : d = kl
    · have hm0 : m = kl := by omega
      go_wp2_with (at_builtin; refine wp_lit valT rfl rfl HO1.out rfl rfl (by simp) (by rfl) (by simp [Value.oneCell']) (by omega) (by omega) (by simpa using hsz) ?_; intro A2 c2 w3 hown3 hb3 hg3)
      go_roundw
      case rel => exact ⟨k + 1, 0, 0, _, A2, c2, hlt, rfl, rfl, Nat.le_refl _, Nat.zero_le _, hide (by rw [HRn.out (by omega)]; exact Rd.nil w 1 _), hide (by rw [Hrc.out]; exact hown3), hide (HB2.out.trans hb3)⟩
      case measure => simp [lenV]; omega
    go_wp2_with (at_builtin; refine wp_lit valT rfl rfl HO1.out rfl rfl (by simp) (by rfl) (by simp [Value.oneCell']) (by omega) (by omega) (by simpa using hsz) ?_; intro A2 c2 w3 hown3 hb3 hg3)
    go_roundw
    case rel => exact ⟨k + 1, m - kl, d - kl, _, A2, c2, hlt, rfl, rfl, by omega, by omega, hide (HRd.out (m - kl) rfl), hide (by rw [Hrc.out]; exact hown3), hide (HB2.out.trans hb3)⟩
    case measure => simp [lenV]; omega
def rowOk (l : List V) : Prop := l.length ≤ 3 ∧ ∀ v ∈ l, okV v ∧ (v.k = 2 → nRunes v.s ≤ 8)
set_option maxHeartbeats 1600000 in
set_option maxRecDepth 1000000 in
theorem encrow_ok (A : Option Addr) (n c : Nat) (l : List V) (hn : l.length = n) (hr : rowOk l) (w : World) (h : Rd w 3 A n (rowCells l)) (hT : Tabs w) :
    Calls Tryz.prog 121 #[.slice A n c] w fun e w' => ∃ A' c', e = .returned (.tuple #[.slice A' (keyL l).length c', .int .i64 0]) ∧ w'.ownsRow w.heap.size 5 1 (.slice A' (keyL l).length c') (keyL l).length (bys (keyL l)) ∧ Below w.heap.size w w' := by
  obtain ⟨h3, hr⟩ := hr
  have Hr := hide hr
  have H := hide h
  have HT := hide hT
  clear h hr hT
  go_enter Tryz.func121, Tryz.ntmps121
  go_wp2_with fail
  go_loopw [13] (fun i wr => ∃ (k : Nat), k ≤ n ∧ i = .int .i64 k ∧ Hid (Below w.heap.size w wr)) (fun i _ => n - (intOf i).toNat)
  case atStart => exact ⟨0, Nat.zero_le _, rfl, hide (Below.refl _ _)⟩
  case round =>
    obtain ⟨k, hk, rfl, HB⟩ := hrel
    by_cases hlt : k < n
    rotate_left
    · have hcon := key_any A c l wr (by rw [hn]; exact H.out.below HB.out) (by omega) (fun v hv => (Hr.out v hv).1.1) (fun v hv => (Hr.out v hv).1.2.2) (HT.out.below HB.out) (fun v hv => (Hr.out v hv).1.2.1)
      rw [hn] at hcon
      go_wp2_with fail
      refine hcon.mono ?_
      rintro e w1 ⟨A', c', rfl, hown, hb⟩
      go_wp2
      go_ret2
      exact ⟨A', c', rfl, own_mono hown HB.out.size, below_then HB.out HB.out.size hb⟩
    obtain ⟨b, o, rfl, e0, e1, e2⟩ := Row.cells (l := l) (by rw [hn]; exact H.out.below HB.out) k (by omega)
    have hok := Hr.out l[k] (List.getElem_mem _)
    have HTr := hide (HT.out.below HB.out)
    generalize hv : l[k] = v at *
    obtain ⟨vk, vn, vs⟩ := v
    simp only at e0 e1 e2
    have hss : vs.size ≤ 9223372036854775807 := by have := hok.1.2.2; simp only at this; omega
    have Hok := hide hok
    have HBa := hide (HB.out.alloc HB.out.size (.cells #[.int .i64 vk, .int .i64 vn, .string vs] 28))
    clear hv hok
    by_cases h2 : vk = 2
    · subst h2
      have h8 : nRunes vs ≤ 8 := Hok.out.2 rfl
      generalize hnr : nRunes vs = nr at *
      have n1 := C.new wr #[.int .i64 2, .int .i64 vn, .string vs] 28 2 (v := .string vs) rfl
      go_wp2_with fail
      refine (runes_any vs _ hss (HTr.out.below ((Below.refl _ _).alloc (Nat.le_refl _) _))).mono ?_
      rintro e w1 ⟨rfl, hb1⟩
      rw [hnr]
      have hb2 := below_then HBa.out HBa.out.size hb1
      go_wp2
      go_roundw
      case rel => exact ⟨k + 1, hlt, by go_num, hide hb2⟩
      case measure => simp [intOf]; omega
    have t2 : (vk == 2) = false := by simpa using h2
    go_wp2
    go_roundw
    case rel => exact ⟨k + 1, hlt, by go_num, HBa⟩
    case measure => simp [intOf]; omega
set_option maxHeartbeats 1600000 in
set_option maxRecDepth 1000000 in
theorem decrow_ok (A : Option Addr) (n c : Nat) (l : List V) (hr : rowOk l) (w : World) (h : RB w A n (keyL l)) (hnc : n ≤ c) (hn : n ≤ 100000000) (hT : Tabs w) :
    Calls Tryz.prog 117 #[.slice A n c] w fun e w' => ∃ A' c', e = .returned (.tuple #[.slice A' l.length c', .int .i64 0]) ∧ w'.ownsRow w.heap.size 28 3 (.slice A' l.length c') l.length (rowCells l) ∧ Below w.heap.size w w' := by
  have hcon := read_any A n c l (fun v hv => (hr.2 v hv).1) w h hnc hn
  have HT := hide hT
  have Hr := hide hr
  clear h hr hT
  go_enter Tryz.func117, Tryz.ntmps117
  go_wp2_with fail
  refine hcon.mono ?_
  rintro e w1 ⟨A1, c1, rfl, hown, hb⟩
  have hcon2 := encrow_ok A1 l.length c1 l rfl Hr.out w1 (Rd.of_own hown) (HT.out.below hb)
  have Hown := hide hown
  clear hcon hown
  go_wp2_with fail
  refine hcon2.mono ?_
  rintro e w2 ⟨A2, c2, rfl, hown2, hb2⟩
  go_wp2
  go_ret2
  exact ⟨A1, c1, rfl, own_below Hown.out hb2, below_chain hb hb2⟩
end Go.Proofs.YtekokogmnhlchaaGreatDoor
