import Derived.Test.YtekokogmnhlchaaGreatDoorD6
import Derived.Test.YtekokogmnhlchaaGreatDoorA4
set_option linter.unusedSimpArgs false
set_option linter.unusedVariables false
set_option linter.unusedSectionVars false
namespace Go.Proofs.YtekokogmnhlchaaGreatDoor
open Go.RowKit
def cmpN : List Nat → List Nat → Int
  | [], [] => 0
  | [], _ :: _ => -1
  | _ :: _, [] => 1
  | x :: a, y :: b => if x = y then cmpN a b else sgn x y
def cmpV (a b : V) : Int := if a.k ≠ b.k then sgn a.k b.k else if a.k ≠ 2 then sgn a.n b.n else cmpN (runesL a.s.data.toList) (runesL b.s.data.toList)
def cmpVs : List V → List V → Int
  | [], [] => 0
  | [], _ :: _ => -1
  | _ :: _, [] => 1
  | x :: a, y :: b => if cmpV x y = 0 then cmpVs a b else cmpV x y
theorem sgn_three (a b : Int) : sgn a b = -1 ∧ a < b ∨ sgn a b = 0 ∧ a = b ∨ sgn a b = 1 ∧ b < a := by
  rcases Int.lt_trichotomy a b with h | h | h
  · exact .inl ⟨by simp [sgn, h], h⟩
  · exact .inr (.inl ⟨by simp [sgn, h], h⟩)
  exact .inr (.inr ⟨by simp [sgn, h, show ¬ a < b by omega], h⟩)
theorem sgn_swap (a b : Int) : sgn b a = - sgn a b := by
  rcases Int.lt_trichotomy a b with h | h | h
  · simp [sgn, h, show ¬ b < a by omega]
  · subst h; simp [sgn]
  simp [sgn, h, show ¬ a < b by omega]
theorem cmpN_swap : ∀ a b : List Nat, cmpN b a = - cmpN a b
  | [], [] => rfl
  | [], _ :: _ => rfl
  | _ :: _, [] => rfl
  | x :: a, y :: b => by
    simp only [cmpN]
    by_cases h : x = y
    · subst h; simp [cmpN_swap a b]
    rw [if_neg h, if_neg (fun e => h e.symm)]; exact sgn_swap _ _
theorem cmpN_three : ∀ a b : List Nat, cmpN a b = -1 ∨ cmpN a b = 0 ∨ cmpN a b = 1
  | [], [] => .inr (.inl rfl)
  | [], _ :: _ => .inl rfl
  | _ :: _, [] => .inr (.inr rfl)
  | x :: a, y :: b => by
    simp only [cmpN]
    split
    · exact cmpN_three a b
    rcases sgn_three x y with h | h | h
    · exact .inl h.1
    · exact .inr (.inl h.1)
    exact .inr (.inr h.1)
theorem cmpN_zero : ∀ {a b : List Nat}, cmpN a b = 0 → a = b
  | [], [], _ => rfl
  | [], _ :: _, h => by simp [cmpN] at h
  | _ :: _, [], h => by simp [cmpN] at h
  | x :: a, y :: b, h => by
    simp only [cmpN] at h
    by_cases hx : x = y
    · subst hx
      rw [if_pos rfl] at h
      rw [cmpN_zero h]
    rw [if_neg hx] at h
    rcases sgn_three x y with h2 | h2 | h2
    · omega
    · omega
    omega
theorem cmpN_refl : ∀ a : List Nat, cmpN a a = 0
  | [] => rfl
  | x :: a => by simp [cmpN, cmpN_refl a]
theorem cmpV_swap (a b : V) : cmpV b a = - cmpV a b := by
  unfold cmpV
  by_cases h : a.k = b.k
  · have e1 : ¬ (b.k ≠ a.k) := fun e => e h.symm
    have e2 : ¬ (a.k ≠ b.k) := fun e => e h
    rw [if_neg e1, if_neg e2]
    by_cases h2 : a.k = 2
    · have e3 : ¬ (b.k ≠ 2) := fun e => e (h ▸ h2)
      have e4 : ¬ (a.k ≠ 2) := fun e => e h2
      rw [if_neg e3, if_neg e4]; exact cmpN_swap _ _
    have e3 : b.k ≠ 2 := fun e => h2 (h.trans e)
    rw [if_pos e3, if_pos h2]; exact sgn_swap _ _
  have e1 : b.k ≠ a.k := fun e => h e.symm
  rw [if_pos e1, if_pos h]; exact sgn_swap _ _
theorem cmpV_three (a b : V) : cmpV a b = -1 ∨ cmpV a b = 0 ∨ cmpV a b = 1 := by
  unfold cmpV
  have hs := fun x y => sgn_three x y
  split
  · rcases hs a.k b.k with h | h | h <;> simp [h.1]
  split
  · rcases hs a.n b.n with h | h | h <;> simp [h.1]
  exact cmpN_three _ _
theorem cmpV_refl (a : V) : cmpV a a = 0 := by
  unfold cmpV
  rw [if_neg (by simp)]
  split
  · simp [sgn]
  exact cmpN_refl _
theorem cmpV_zero {a b : V} (ha : okV a) (hb : okV b) (h : cmpV a b = 0) : a = b := by
  unfold cmpV at h
  by_cases hk : a.k = b.k
  rotate_left
  · rw [if_pos hk] at h
    rcases sgn_three a.k b.k with h3 | h3 | h3 <;> omega
  rw [if_neg (by simp [hk])] at h
  by_cases h2 : a.k = 2
  · rw [if_neg (by simp [h2])] at h
    rcases right_kinds ha.1 with ⟨a0, a1, a2⟩ | ⟨a0, a2⟩ | ⟨a0, a1, a2⟩ | ⟨a0, a1, a2⟩ <;> try omega
    rcases right_kinds hb.1 with ⟨b0, b1, b2⟩ | ⟨b0, b2⟩ | ⟨b0, b1, b2⟩ | ⟨b0, b1, b2⟩ <;> try omega
    exact V.ext_ hk (by omega) (text_inj a2 b2 (cmpN_zero h))
  rw [if_pos h2] at h
  have hn : a.n = b.n := by rcases sgn_three a.n b.n with h3 | h3 | h3 <;> omega
  have h2' : b.k ≠ 2 := by rw [← hk]; exact h2
  have e1 : a.s = ⟨#[]⟩ := by rcases right_kinds ha.1 with ⟨a0, a1, a2⟩ | ⟨a0, a2⟩ | ⟨a0, a1, a2⟩ | ⟨a0, a1, a2⟩ <;> first | exact empty_text a2 | exact absurd a0 h2
  have e2 : b.s = ⟨#[]⟩ := by rcases right_kinds hb.1 with ⟨a0, a1, a2⟩ | ⟨a0, a2⟩ | ⟨a0, a1, a2⟩ | ⟨a0, a1, a2⟩ <;> first | exact empty_text a2 | exact absurd a0 h2'
  exact V.ext_ hk hn (by rw [e1, e2])
theorem g3_lt : ∀ (a b : List Nat) (x y : List UInt8), (∀ r ∈ a, r ≤ 1114111) → (∀ r ∈ b, r ≤ 1114111) → cmpN a b = -1 → cmpB (g3 a ++ ([0, 0, 0] ++ x)) (g3 b ++ ([0, 0, 0] ++ y)) = -1
  | [], [], _, _, _, _, h => by simp [cmpN] at h
  | _ :: _, [], _, _, _, _, h => by simp [cmpN] at h
  | [], r :: b, x, y, _, hb, _ => by
    have hr := hb r (by simp)
    have h0 : ([0, 0, 0] : List UInt8) = be 3 0 := by decide
    rw [show g3 [] = [] from rfl, List.nil_append, show g3 (r :: b) = three (r + 1) ++ g3 b from rfl, three_be, List.append_assoc]
    conv => lhs; arg 1; rw [h0]
    exact be_lt 3 0 (r + 1) _ _ (by omega) (by omega) (by omega)
  | r :: a, q :: b, x, y, ha, hb, h => by
    have hr := ha r (by simp)
    have hq := hb q (by simp)
    rw [show g3 (r :: a) = three (r + 1) ++ g3 a from rfl, show g3 (q :: b) = three (q + 1) ++ g3 b from rfl, List.append_assoc, List.append_assoc]
    simp only [cmpN] at h
    by_cases he : r = q
    · subst he
      rw [if_pos rfl] at h
      rw [cmpB_append]
      exact g3_lt a b x y (fun z hz => ha z (by simp [hz])) (fun z hz => hb z (by simp [hz])) h
    rw [if_neg he] at h
    have hlt : r < q := by rcases sgn_three r q with h3 | h3 | h3 <;> omega
    rw [three_be, three_be]
    exact be_lt 3 (r + 1) (q + 1) _ _ (by omega) (by omega) (by omega)
theorem keyV_lt {a b : V} (ha : okV a) (hb : okV b) (h : cmpV a b = -1) (x y : List UInt8) : cmpB (keyV a ++ x) (keyV b ++ y) = -1 := by
  unfold cmpV at h
  by_cases hk : a.k = b.k
  rotate_left
  · rw [if_pos hk] at h
    have hlt : a.k < b.k := by rcases sgn_three a.k b.k with h3 | h3 | h3 <;> omega
    obtain ⟨t, e1, p1, p2⟩ := keyV_head a ha.1
    obtain ⟨u, e2, q1, q2⟩ := keyV_head b hb.1
    rw [e1, e2]
    exact cmpB_head (UInt8.lt_iff_toNat_lt.2 (by rw [u8n, u8n]; omega)) _ _
  rw [if_neg (by simp [hk])] at h
  rcases right_kinds ha.1 with ⟨a0, a1, a2⟩ | ⟨a0, a2⟩ | ⟨a0, a1, a2⟩ | ⟨a0, a1, a2⟩
  · rcases right_kinds hb.1 with ⟨b0, b1, b2⟩ | ⟨b0, b2⟩ | ⟨b0, b1, b2⟩ | ⟨b0, b1, b2⟩ <;> try omega
    rw [if_pos (by omega)] at h
    rcases sgn_three a.n b.n with h3 | h3 | h3 <;> omega
  · rw [if_pos (by omega)] at h
    have hlt : a.n < b.n := by rcases sgn_three a.n b.n with h3 | h3 | h3 <;> omega
    have b0 : b.k = 1 := by omega
    have ea : a = ⟨1, a.n, a.s⟩ := V.ext_ a0 rfl rfl
    have eb : b = ⟨1, b.n, b.s⟩ := V.ext_ b0 rfl rfl
    rw [ea, eb]
    exact keyV_int_lt ha.2.1 hb.2.1 hlt _ _ _ _
  · rw [if_neg (by omega)] at h
    have b0 : b.k = 2 := by omega
    have ea : keyV a = 3 :: runesB a.s := by simp [keyV, a0]
    have eb : keyV b = 3 :: runesB b.s := by simp [keyV, b0]
    rw [ea, eb, runesB_g3, runesB_g3]
    have := g3_lt (runesL a.s.data.toList) (runesL b.s.data.toList) x y (runesL_rune _ _ (Nat.le_refl _)) (runesL_rune _ _ (Nat.le_refl _)) h
    simp only [List.cons_append, cmpB, UInt8.lt_irrefl, if_false, List.append_assoc]
    simpa using this
  rcases right_kinds hb.1 with ⟨b0, b1, b2⟩ | ⟨b0, b2⟩ | ⟨b0, b1, b2⟩ | ⟨b0, b1, b2⟩ <;> try omega
  rw [if_pos (by omega)] at h
  have hlt : a.n < b.n := by rcases sgn_three a.n b.n with h3 | h3 | h3 <;> omega
  have e1 : a.n = 0 := by omega
  have e2 : b.n = 1 := by omega
  have ea : keyV a = [4, 0] := by simp [keyV, a0, e1]
  have eb : keyV b = [4, 1] := by simp [keyV, b0, e2]
  rw [ea, eb]
  simp [cmpB]
theorem cmpV_lt {a b : V} (ha : okV a) (hb : okV b) (hne : a ≠ b) {x y : List UInt8} (h : cmpB (keyV a ++ x) (keyV b ++ y) < 0) : cmpV a b = -1 := by
  rcases cmpV_three a b with h1 | h1 | h1
  · exact h1
  · exact absurd (cmpV_zero ha hb h1) hne
  have h2 := cmpV_swap a b
  rw [h1] at h2
  have h3 := keyV_lt hb ha h2 y x
  have h4 := cmpB_swap (keyV b ++ y) (keyV a ++ x)
  omega
theorem keyL_cons' (v : V) (l : List V) : keyL (v :: l) = keyV v ++ keyL l := rfl
theorem cmpVs_lt : ∀ {l m : List V}, (∀ v ∈ l, okV v) → (∀ v ∈ m, okV v) → cmpB (keyL l) (keyL m) < 0 → cmpVs l m = -1
  | [], [], _, _, h => by simp [keyL, cmpB] at h
  | [], _ :: _, _, _, _ => rfl
  | v :: l, [], hl, _, h => by
    exfalso
    obtain ⟨t, e, _⟩ := keyV_head v (hl v (by simp)).1
    rw [keyL_cons', e] at h
    simp [keyL, cmpB] at h
  | v :: l, u :: m, hl, hm, h => by
    rw [keyL_cons', keyL_cons'] at h
    simp only [cmpVs]
    by_cases he : v = u
    · subst he
      rw [if_pos (cmpV_refl v)]
      rw [cmpB_append] at h
      exact cmpVs_lt (fun z hz => hl z (by simp [hz])) (fun z hz => hm z (by simp [hz])) h
    have := cmpV_lt (hl v (by simp)) (hm u (by simp)) he h
    rw [this, if_neg (by omega)]
def bat (s : ByteArray) (pos i : Nat) : Nat := (s.data.toList.getD (pos + i) 0).toNat
theorem bat_lt (s : ByteArray) (pos i : Nat) : bat s pos i < 256 := UInt8.toNat_lt _
theorem round_facts (s : ByteArray) (pos : Nat) (h : pos < s.size) (hv : Lib.validD (s.data.toList.drop pos) = true) :
    Lib.validD (s.data.toList.drop (pos + (Utf8.decode s pos).2)) = true ∧
    ((bat s pos 0 < 128 ∧ Utf8.decode s pos = (bat s pos 0, 1)) ∨
     (bat s pos 0 / 32 = 6 ∧ pos + 1 < s.size ∧ bat s pos 1 / 64 = 2 ∧ 128 ≤ bat s pos 0 % 32 * 64 + bat s pos 1 % 64 ∧ Utf8.decode s pos = (bat s pos 0 % 32 * 64 + bat s pos 1 % 64, 2)) ∨
     (bat s pos 0 / 16 = 14 ∧ pos + 2 < s.size ∧ bat s pos 1 / 64 = 2 ∧ bat s pos 2 / 64 = 2 ∧ 2048 ≤ bat s pos 0 % 16 * 4096 + bat s pos 1 % 64 * 64 + bat s pos 2 % 64 ∧ (bat s pos 0 % 16 * 4096 + bat s pos 1 % 64 * 64 + bat s pos 2 % 64 < 55296 ∨ 57344 ≤ bat s pos 0 % 16 * 4096 + bat s pos 1 % 64 * 64 + bat s pos 2 % 64) ∧
        Utf8.decode s pos = (bat s pos 0 % 16 * 4096 + bat s pos 1 % 64 * 64 + bat s pos 2 % 64, 3)) ∨
     (bat s pos 0 / 8 = 30 ∧ pos + 3 < s.size ∧ bat s pos 1 / 64 = 2 ∧ bat s pos 2 / 64 = 2 ∧ bat s pos 3 / 64 = 2 ∧ 65536 ≤ bat s pos 0 % 8 * 262144 + bat s pos 1 % 64 * 4096 + bat s pos 2 % 64 * 64 + bat s pos 3 % 64 ∧ bat s pos 0 % 8 * 262144 + bat s pos 1 % 64 * 4096 + bat s pos 2 % 64 * 64 + bat s pos 3 % 64 ≤ 1114111 ∧
        Utf8.decode s pos = (bat s pos 0 % 8 * 262144 + bat s pos 1 % 64 * 4096 + bat s pos 2 % 64 * 64 + bat s pos 3 % 64, 4))) := by
  have hs := Lib.validD_step _ (drop_ne s pos h)
  rw [hv, Lib.decodeL_drop] at hs
  have hN := Lib.decode_N s pos
  have hz := size_len s
  by_cases hbad : (Utf8.decode s pos).1 = 65533 ∧ (Utf8.decode s pos).2 = 1
  · rw [if_pos hbad] at hs; cases hs
  rw [if_neg hbad, List.drop_drop] at hs
  refine ⟨hs.symm, ?_⟩
  have hsh := Lib.decodeN_shape (s.data.toList.length - pos) (s.data.toList.getD pos 0).toNat (s.data.toList.getD (pos + 1) 0).toNat (s.data.toList.getD (pos + 2) 0).toNat (s.data.toList.getD (pos + 3) 0).toNat
  rw [← hN] at hsh
  show ((s.data.toList.getD (pos + 0) 0).toNat < 128 ∧ _) ∨ _
  rw [Nat.add_zero]
  rcases hsh with ⟨c, e⟩ | ⟨c1, c2, c3, cv, e⟩ | ⟨c1, c2, c3, c4, cv, cs, e⟩ | ⟨c1, c2, c3, c4, c5, cv, cw, e⟩ | e
  · exact .inl ⟨c, e⟩
  · exact .inr (.inl ⟨c1, by omega, c3, cv, e⟩)
  · exact .inr (.inr (.inl ⟨c1, by omega, c3, c4, cv, cs, e⟩))
  · exact .inr (.inr (.inr ⟨c1, by omega, c3, c4, c5, cv, cw, e⟩))
  rw [e] at hbad
  exact absurd ⟨rfl, rfl⟩ hbad
theorem cont_bits : ∀ n : Fin 256, n.val / 64 = 2 → (bits .and .u8 ((n.val : Nat) : Int) 192 != 128) = false := by decide +kernel
theorem cont_of {q : Nat} (h : q / 64 = 2) : (bits .and .u8 (q : Int) 192 != 128) = false := cont_bits ⟨q, by omega⟩ h
theorem or_64 (x y : Int) (h0 : 0 ≤ x) (h1 : x < 32768) (h2 : 0 ≤ y) (h3 : y < 64) : bits .or .i32 (x * 64) y = x * 64 + y :=
  bits_join .i32 31 (by decide) wraps_i32 6 (x * 64) y (by omega) (by omega) (by omega) h2 (by omega) (by omega)
theorem bat_get (s : ByteArray) (pos i : Nat) (h : pos + i < s.size) : s[pos + i].toNat = bat s pos i := by
  rw [bat, List.getD_eq_getElem?_getD, List.getElem?_eq_getElem (by rw [← size_len]; exact h)]; rfl
set_option maxHeartbeats 16000000 in
set_option maxRecDepth 1000000 in
theorem runes_ok (s : ByteArray) (w : World) (hv : Lib.validD s.data.toList = true) (hz : s.size ≤ 100000000) :
    Calls Tryz.prog 128 #[.string s] w fun e w' => ∃ A c, e = .returned (.tuple #[.slice A (runesL s.data.toList).length c, .bool true]) ∧ w'.ownsRow w.heap.size 21 1 (.slice A (runesL s.data.toList).length c) (runesL s.data.toList).length (rns (runesL s.data.toList)) ∧ Below w.heap.size w w' := by
  obtain ⟨R, hR⟩ : ∃ R, runesL s.data.toList = R := ⟨_, rfl⟩
  have hRl : R.length ≤ 100000000 := by rw [← hR]; have := runesL_le s.data.toList; rw [← size_len] at this; omega
  have h0 := hide (⟨hR, hv⟩ : runesL s.data.toList = R ∧ Lib.validD s.data.toList = true)
  rw [hR]
  have HRl := hide hRl
  clear hR hv hRl
  go_enter Tryz.func128, Tryz.ntmps128
  go_wp2_with fail
  go_loopw [4, 5] (fun ov iv wr => ∃ (k pos : Nat) (A : Option Addr) (c : Nat), k ≤ R.length ∧ pos ≤ s.size ∧ iv = .int .i64 pos ∧ ov = .slice A k c ∧ Hid (runesL (s.data.toList.drop pos) = R.drop k ∧ Lib.validD (s.data.toList.drop pos) = true) ∧ Hid (wr.ownsRow w.heap.size 21 1 (.slice A k c) k (rns (R.take k))) ∧ Hid (Below w.heap.size w wr)) (fun _ iv _ => s.size - (intOf iv).toNat)
  case atStart => exact ⟨0, 0, none, 0, Nat.zero_le _, Nat.zero_le _, rfl, rfl, hide (by simpa using h0.out), hide (World.ownsRow_nil _ _ _ _), hide (Below.refl _ _)⟩
  case round =>
    obtain ⟨k, pos, A, c, hk, hp, rfl, rfl, HP, HO, HB⟩ := hrel
    by_cases hlt : pos < s.size
    rotate_left
    · have hpe : pos = s.size := by omega
      have hke : k = R.length := by
        have h1 := HP.out.1
        rw [runes_end s pos (by omega)] at h1
        have := congrArg List.length h1
        simp at this
        omega
      subst hke
      have hki : ¬ (pos : Int) < (s.size : Int) := by omega
      have HO2 := hide (by have := HO.out; rw [List.take_length] at this; exact this : wr.ownsRow w.heap.size 21 1 (.slice A R.length c) R.length (rns R))
      clear hpe
      go_wp2_with fail
      go_ret2
      exact ⟨A, c, rfl, HO2.out, HB.out⟩
    have hki : (pos : Int) < (s.size : Int) := by omega
    obtain ⟨hv2, hcl⟩ := round_facts s pos hlt HP.out.2
    have hru := runes_at s pos hlt
    have hrk : R.drop k = (Utf8.decode s pos).1 :: runesL (s.data.toList.drop (pos + (Utf8.decode s pos).2)) := by rw [← HP.out.1]; exact hru
    have hkl : k < R.length := by
      rcases Nat.lt_or_ge k R.length with h | h
      · exact h
      rw [List.drop_of_length_le h] at hrk; cases hrk
    have hsp : R[k] = (Utf8.decode s pos).1 ∧ R.drop (k + 1) = runesL (s.data.toList.drop (pos + (Utf8.decode s pos).2)) := by
      rw [List.drop_eq_getElem_cons hkl] at hrk
      exact ⟨(List.cons.inj hrk).1, (List.cons.inj hrk).2⟩
    have hbs := HB.out.size
    have e0 : s[pos].toNat = bat s pos 0 := bat_get s pos 0 hlt
    obtain ⟨q0, hq0⟩ : ∃ q, bat s pos 0 = q := ⟨_, rfl⟩
    have l0 : q0 < 256 := by rw [← hq0]; exact bat_lt _ _ _
    have hq : ∀ h : pos < s.size, s[pos].toNat = q0 := fun h => e0.trans hq0
    rw [hq0] at hcl
    clear e0 hq0 hru hrk
    have fin : ∀ (r wd : Nat), Utf8.decode s pos = (r, wd) → ∀ A2 c2 (w3 : World), w3.ownsRow w.heap.size 21 1 (.slice A2 (k + 1) c2) (k + 1) (rns (R.take k) ++ [.int .i32 ((r : Nat) : Int)]) → Below w.heap.size wr w3 →
        (runesL (s.data.toList.drop (pos + wd)) = R.drop (k + 1) ∧ Lib.validD (s.data.toList.drop (pos + wd)) = true) ∧ w3.ownsRow w.heap.size 21 1 (.slice A2 (k + 1) c2) (k + 1) (rns (R.take (k + 1))) ∧ Below w.heap.size w w3 := by
      intro r wd he A2 c2 w3 hown hb
      rw [he] at hsp hv2
      refine ⟨⟨hsp.2.symm, hv2⟩, ?_, HB.out.trans hb⟩
      rw [List.take_succ_eq_append_getElem hkl, hsp.1]
      simpa [rns] using hown
    have Fin := hide fin
    have HRk := HRl.out
    clear fin hsp hv2
    rcases hcl with ⟨h1, he⟩ | ⟨h1, h2, h3, h4, he⟩ | ⟨h1, h2, h3, h4, h5, h6, he⟩ | ⟨h1, h2, h3, h4, h5, h6, h7, he⟩
    · have F1 := hide (Fin.out _ _ he)
      have t0 : (q0 : Int) < 128 := by omega
      have t3 : (pos : Int) + 1 ≤ s.size := by omega
      have v1 : ¬ (55296 : Int) ≤ (q0 : Int) := by omega
      clear he Fin
      as_aux_lemma =>
        go_wp2_with fail
        refine wp_loop_rounds 1 ?_
        rw [rounds_succ]
        go_wp2_with (at_builtin; refine wp_lit r32T rfl rfl HO.out rfl rfl (by simp) (by rfl) (by simp [Value.oneCell']) (by omega) (by omega) hbs ?_; intro A2 c2 w3 hown3 hb3 hg3)
        have F2 := F1.out A2 c2 w3 hown3 hb3
        exact ⟨⟨k + 1, pos + 1, A2, c2, by omega, by omega, by go_num, rfl, hide F2.1, hide F2.2.1, hide F2.2.2⟩, by simp [intOf]; omega⟩
    · have F1 := hide (Fin.out _ _ he)
      have hn1 := bat_get s pos 1 (by omega)
      obtain ⟨q1, hq1⟩ : ∃ q, bat s pos 1 = q := ⟨_, rfl⟩
      have l1 : q1 < 256 := by rw [← hq1]; exact bat_lt _ _ _
      have hqq1 : ∀ h : pos + 1 < s.size, s[pos + 1].toNat = q1 := fun h => hn1.trans hq1
      simp only [hq1] at h3 h4 F1
      have t0 : ¬ ((q0 : Int) < 128) := by omega
      have t1 : (194 : Int) ≤ q0 := by omega
      have t2 : (q0 : Int) < 224 := by omega
      have t3 : (pos : Int) + 2 ≤ s.size := by omega
      obtain ⟨p0, hp0⟩ : ∃ p : Int, (q0 : Int) % 32 = p := ⟨_, rfl⟩
      have b1 : bits .and .u8 (q0 : Int) 31 = p0 := hp0 ▸ u8_and31 _ (by omega) (by omega)
      have z0 : 0 ≤ p0 ∧ p0 < 32 := by omega
      have m1 := cont_of (q := q1) (by omega)
      obtain ⟨r1, hr1⟩ : ∃ p : Int, (q1 : Int) % 64 = p := ⟨_, rfl⟩
      have y1 : 0 ≤ r1 ∧ r1 < 64 := by omega
      have e1 : bits .and .u8 (q1 : Int) 63 = r1 := hr1 ▸ u8_and63 _ (by omega) (by omega)
      obtain ⟨p1, hp1⟩ : ∃ p : Int, p0 * 64 + r1 = p := ⟨_, rfl⟩
      have o1 : bits .or .i32 (p0 * 64) r1 = p1 := hp1 ▸ or_64 _ _ (by omega) (by omega) (by omega) (by omega)
      have z1 : 0 ≤ p1 ∧ p1 < 2048 := by omega
      have v1 : ¬ (55296 : Int) ≤ p1 := by omega
      have hval : ((q0 % 32 * 64 + q1 % 64 : Nat) : Int) = p1 := by omega
      rw [hval] at F1
      clear he Fin hval hn1 hq1 hp1 hr1 hp0 h1 h3 h4 l1 l0
      as_aux_lemma =>
        go_wp2_with fail
        refine wp_loop_rounds 2 ?_
        rw [rounds_succ]
        go_wp2_with fail
        rw [rounds_succ]
        go_wp2_with (at_builtin; refine wp_lit r32T rfl rfl HO.out rfl rfl (by simp) (by rfl) (by simp [Value.oneCell']) (by omega) (by omega) hbs ?_; intro A2 c2 w3 hown3 hb3 hg3)
        have F2 := F1.out A2 c2 w3 (by simpa using hown3) hb3
        exact ⟨⟨k + 1, pos + 2, A2, c2, by omega, by omega, by go_num, rfl, hide F2.1, hide F2.2.1, hide F2.2.2⟩, by simp [intOf]; omega⟩
    · have F1 := hide (Fin.out _ _ he)
      have hn1 := bat_get s pos 1 (by omega)
      have hn2 := bat_get s pos 2 (by omega)
      obtain ⟨q1, hq1⟩ : ∃ q, bat s pos 1 = q := ⟨_, rfl⟩
      have l1 : q1 < 256 := by rw [← hq1]; exact bat_lt _ _ _
      obtain ⟨q2, hq2⟩ : ∃ q, bat s pos 2 = q := ⟨_, rfl⟩
      have l2 : q2 < 256 := by rw [← hq2]; exact bat_lt _ _ _
      have hqq1 : ∀ h : pos + 1 < s.size, s[pos + 1].toNat = q1 := fun h => hn1.trans hq1
      have hqq2 : ∀ h : pos + 2 < s.size, s[pos + 2].toNat = q2 := fun h => hn2.trans hq2
      simp only [hq1, hq2] at h3 h4 h5 h6 F1
      have t0 : ¬ ((q0 : Int) < 128) := by omega
      have t1 : (194 : Int) ≤ q0 := by omega
      have t2 : ¬ (q0 : Int) < 224 := by omega
      have t4 : (224 : Int) ≤ q0 := by omega
      have t5 : (q0 : Int) < 240 := by omega
      have t3 : (pos : Int) + 3 ≤ s.size := by omega
      obtain ⟨p0, hp0⟩ : ∃ p : Int, (q0 : Int) % 16 = p := ⟨_, rfl⟩
      have b1 : bits .and .u8 (q0 : Int) 15 = p0 := hp0 ▸ u8_and15 _ (by omega) (by omega)
      have z0 : 0 ≤ p0 ∧ p0 < 16 := by omega
      have m1 := cont_of (q := q1) (by omega)
      obtain ⟨r1, hr1⟩ : ∃ p : Int, (q1 : Int) % 64 = p := ⟨_, rfl⟩
      have y1 : 0 ≤ r1 ∧ r1 < 64 := by omega
      have e1 : bits .and .u8 (q1 : Int) 63 = r1 := hr1 ▸ u8_and63 _ (by omega) (by omega)
      obtain ⟨p1, hp1⟩ : ∃ p : Int, p0 * 64 + r1 = p := ⟨_, rfl⟩
      have o1 : bits .or .i32 (p0 * 64) r1 = p1 := hp1 ▸ or_64 _ _ (by omega) (by omega) (by omega) (by omega)
      have z1 : 0 ≤ p1 ∧ p1 < 1024 := by omega
      have m2 := cont_of (q := q2) (by omega)
      obtain ⟨r2, hr2⟩ : ∃ p : Int, (q2 : Int) % 64 = p := ⟨_, rfl⟩
      have y2 : 0 ≤ r2 ∧ r2 < 64 := by omega
      have e2 : bits .and .u8 (q2 : Int) 63 = r2 := hr2 ▸ u8_and63 _ (by omega) (by omega)
      obtain ⟨p2, hp2⟩ : ∃ p : Int, p1 * 64 + r2 = p := ⟨_, rfl⟩
      have o2 : bits .or .i32 (p1 * 64) r2 = p2 := hp2 ▸ or_64 _ _ (by omega) (by omega) (by omega) (by omega)
      have z2 : 0 ≤ p2 ∧ p2 < 65536 := by omega
      have v1 : ¬ p2 < 2048 := by omega
      have hv3 : (¬ (55296 : Int) ≤ p2) ∨ ((55296 : Int) ≤ p2 ∧ ¬ p2 < 57344) := by omega
      have hval : ((q0 % 16 * 4096 + q1 % 64 * 64 + q2 % 64 : Nat) : Int) = p2 := by omega
      rw [hval] at F1
      clear he Fin hval hn1 hq1 hn2 hq2 hp1 hp2 hr1 hr2 hp0 h1 h3 h4 h5 h6 l1 l2 l0
      as_aux_lemma =>
        go_wp2_with fail
        refine wp_loop_rounds 3 ?_
        rw [rounds_succ]
        go_wp2_with fail
        rw [rounds_succ]
        go_wp2_with fail
        rw [rounds_succ]
        rcases hv3 with v2 | ⟨v2, v3⟩
        · go_wp2_with (at_builtin; refine wp_lit r32T rfl rfl HO.out rfl rfl (by simp) (by rfl) (by simp [Value.oneCell']) (by omega) (by omega) hbs ?_; intro A2 c2 w3 hown3 hb3 hg3)
          have F2 := F1.out A2 c2 w3 (by simpa using hown3) hb3
          exact ⟨⟨k + 1, pos + 3, A2, c2, by omega, by omega, by go_num, rfl, hide F2.1, hide F2.2.1, hide F2.2.2⟩, by simp [intOf]; omega⟩
        go_wp2_with (at_builtin; refine wp_lit r32T rfl rfl HO.out rfl rfl (by simp) (by rfl) (by simp [Value.oneCell']) (by omega) (by omega) hbs ?_; intro A2 c2 w3 hown3 hb3 hg3)
        have F2 := F1.out A2 c2 w3 (by simpa using hown3) hb3
        exact ⟨⟨k + 1, pos + 3, A2, c2, by omega, by omega, by go_num, rfl, hide F2.1, hide F2.2.1, hide F2.2.2⟩, by simp [intOf]; omega⟩
    have F1 := hide (Fin.out _ _ he)
    have hn1 := bat_get s pos 1 (by omega)
    have hn2 := bat_get s pos 2 (by omega)
    have hn3 := bat_get s pos 3 (by omega)
    obtain ⟨q1, hq1⟩ : ∃ q, bat s pos 1 = q := ⟨_, rfl⟩
    have l1 : q1 < 256 := by rw [← hq1]; exact bat_lt _ _ _
    obtain ⟨q2, hq2⟩ : ∃ q, bat s pos 2 = q := ⟨_, rfl⟩
    have l2 : q2 < 256 := by rw [← hq2]; exact bat_lt _ _ _
    obtain ⟨q3, hq3⟩ : ∃ q, bat s pos 3 = q := ⟨_, rfl⟩
    have l3 : q3 < 256 := by rw [← hq3]; exact bat_lt _ _ _
    have hqq1 : ∀ h : pos + 1 < s.size, s[pos + 1].toNat = q1 := fun h => hn1.trans hq1
    have hqq2 : ∀ h : pos + 2 < s.size, s[pos + 2].toNat = q2 := fun h => hn2.trans hq2
    have hqq3 : ∀ h : pos + 3 < s.size, s[pos + 3].toNat = q3 := fun h => hn3.trans hq3
    simp only [hq1, hq2, hq3] at h3 h4 h5 h6 h7 F1
    have t0 : ¬ ((q0 : Int) < 128) := by omega
    have t1 : (194 : Int) ≤ q0 := by omega
    have t2 : ¬ (q0 : Int) < 224 := by omega
    have t4 : (224 : Int) ≤ q0 := by omega
    have t5 : ¬ (q0 : Int) < 240 := by omega
    have t6 : (240 : Int) ≤ q0 := by omega
    have t7 : (q0 : Int) < 245 := by omega
    have t3 : (pos : Int) + 4 ≤ s.size := by omega
    obtain ⟨p0, hp0⟩ : ∃ p : Int, (q0 : Int) % 8 = p := ⟨_, rfl⟩
    have b1 : bits .and .u8 (q0 : Int) 7 = p0 := hp0 ▸ u8_and7 _ (by omega) (by omega)
    have z0 : 0 ≤ p0 ∧ p0 < 8 := by omega
    have m1 := cont_of (q := q1) (by omega)
    obtain ⟨r1, hr1⟩ : ∃ p : Int, (q1 : Int) % 64 = p := ⟨_, rfl⟩
    have y1 : 0 ≤ r1 ∧ r1 < 64 := by omega
    have e1 : bits .and .u8 (q1 : Int) 63 = r1 := hr1 ▸ u8_and63 _ (by omega) (by omega)
    obtain ⟨p1, hp1⟩ : ∃ p : Int, p0 * 64 + r1 = p := ⟨_, rfl⟩
    have o1 : bits .or .i32 (p0 * 64) r1 = p1 := hp1 ▸ or_64 _ _ (by omega) (by omega) (by omega) (by omega)
    have z1 : 0 ≤ p1 ∧ p1 < 512 := by omega
    have m2 := cont_of (q := q2) (by omega)
    obtain ⟨r2, hr2⟩ : ∃ p : Int, (q2 : Int) % 64 = p := ⟨_, rfl⟩
    have y2 : 0 ≤ r2 ∧ r2 < 64 := by omega
    have e2 : bits .and .u8 (q2 : Int) 63 = r2 := hr2 ▸ u8_and63 _ (by omega) (by omega)
    obtain ⟨p2, hp2⟩ : ∃ p : Int, p1 * 64 + r2 = p := ⟨_, rfl⟩
    have o2 : bits .or .i32 (p1 * 64) r2 = p2 := hp2 ▸ or_64 _ _ (by omega) (by omega) (by omega) (by omega)
    have z2 : 0 ≤ p2 ∧ p2 < 32768 := by omega
    have m3 := cont_of (q := q3) (by omega)
    obtain ⟨r3, hr3⟩ : ∃ p : Int, (q3 : Int) % 64 = p := ⟨_, rfl⟩
    have y3 : 0 ≤ r3 ∧ r3 < 64 := by omega
    have e3 : bits .and .u8 (q3 : Int) 63 = r3 := hr3 ▸ u8_and63 _ (by omega) (by omega)
    obtain ⟨p3, hp3⟩ : ∃ p : Int, p2 * 64 + r3 = p := ⟨_, rfl⟩
    have o3 : bits .or .i32 (p2 * 64) r3 = p3 := hp3 ▸ or_64 _ _ (by omega) (by omega) (by omega) (by omega)
    have z3 : 0 ≤ p3 ∧ p3 < 2097152 := by omega
    have v1 : ¬ p3 < 65536 := by omega
    have v2 : ¬ (1114111 : Int) < p3 := by omega
    have v3 : (55296 : Int) ≤ p3 := by omega
    have v4 : ¬ p3 < 57344 := by omega
    have hval : ((q0 % 8 * 262144 + q1 % 64 * 4096 + q2 % 64 * 64 + q3 % 64 : Nat) : Int) = p3 := by omega
    rw [hval] at F1
    clear he Fin hval hn1 hq1 hn2 hq2 hn3 hq3 hp1 hp2 hp3 hr1 hr2 hr3 hp0 h1 h3 h4 h5 h6 h7 l1 l2 l3 l0
    as_aux_lemma =>
      go_wp2_with fail
      refine wp_loop_rounds 4 ?_
      rw [rounds_succ]
      go_wp2_with fail
      rw [rounds_succ]
      go_wp2_with fail
      rw [rounds_succ]
      go_wp2_with fail
      rw [rounds_succ]
      go_wp2_with (at_builtin; refine wp_lit r32T rfl rfl HO.out rfl rfl (by simp) (by rfl) (by simp [Value.oneCell']) (by omega) (by omega) hbs ?_; intro A2 c2 w3 hown3 hb3 hg3)
      have F2 := F1.out A2 c2 w3 (by simpa using hown3) hb3
      exact ⟨⟨k + 1, pos + 4, A2, c2, by omega, by omega, by go_num, rfl, hide F2.1, hide F2.2.1, hide F2.2.2⟩, by simp [intOf]; omega⟩
theorem cmpN_step {X Y : List Nat} {k : Nat} (h1 : k < X.length) (h2 : k < Y.length) : cmpN (X.drop k) (Y.drop k) = if X[k] = Y[k] then cmpN (X.drop (k + 1)) (Y.drop (k + 1)) else sgn X[k] Y[k] := by
  rw [List.drop_eq_getElem_cons h1, List.drop_eq_getElem_cons h2, cmpN]
theorem cmpN_end {X Y : List Nat} {k : Nat} (h1 : k ≤ X.length) (h2 : k ≤ Y.length) (h : ¬ (k < X.length ∧ k < Y.length)) : cmpN (X.drop k) (Y.drop k) = sgn X.length Y.length := by
  rcases Nat.lt_or_ge k X.length with h3 | h3
  · have h4 : Y.length = k := by omega
    rw [List.drop_of_length_le (l := Y) (by omega), List.drop_eq_getElem_cons h3, cmpN, sgn, if_neg (by omega), if_pos (by omega)]
  have h5 : X.length = k := by omega
  rw [List.drop_of_length_le (l := X) (by omega)]
  rcases Nat.lt_or_ge k Y.length with h4 | h4
  · rw [List.drop_eq_getElem_cons h4, cmpN, sgn, if_pos (by omega)]
  rw [List.drop_of_length_le (l := Y) (by omega), cmpN, sgn, if_neg (by omega), if_neg (by omega)]
theorem cmpVs_step {X Y : List V} {k : Nat} (h1 : k < X.length) (h2 : k < Y.length) : cmpVs (X.drop k) (Y.drop k) = if cmpV X[k] Y[k] = 0 then cmpVs (X.drop (k + 1)) (Y.drop (k + 1)) else cmpV X[k] Y[k] := by
  rw [List.drop_eq_getElem_cons h1, List.drop_eq_getElem_cons h2, cmpVs]
theorem cmpVs_end {X Y : List V} {k : Nat} (h1 : k ≤ X.length) (h2 : k ≤ Y.length) (h : ¬ (k < X.length ∧ k < Y.length)) : cmpVs (X.drop k) (Y.drop k) = sgn X.length Y.length := by
  rcases Nat.lt_or_ge k X.length with h3 | h3
  · have h4 : Y.length = k := by omega
    rw [List.drop_of_length_le (l := Y) (by omega), List.drop_eq_getElem_cons h3, cmpVs, sgn, if_neg (by omega), if_pos (by omega)]
  have h5 : X.length = k := by omega
  rw [List.drop_of_length_le (l := X) (by omega)]
  rcases Nat.lt_or_ge k Y.length with h4 | h4
  · rw [List.drop_eq_getElem_cons h4, cmpVs, sgn, if_pos (by omega)]
  rw [List.drop_of_length_le (l := Y) (by omega), cmpVs, sgn, if_neg (by omega), if_neg (by omega)]
theorem rns_get {X : List Nat} {k : Nat} (h : k < X.length) : (rns X)[k]? = some (.int .i32 ((X[k] : Nat) : Int)) := by simp [rns, h]
set_option maxHeartbeats 3200000 in
set_option maxRecDepth 1000000 in
theorem oneV_text (x y : V) (w : World) (hx : x.k = 2) (hy : y.k = 2) (vx : Lib.validD x.s.data.toList = true) (vy : Lib.validD y.s.data.toList = true) (zx : x.s.size ≤ 100000000) (zy : y.s.size ≤ 100000000) :
    Calls Tryz.prog 74 #[x.val, y.val] w fun e w' => e = .returned (.int .i64 (cmpN (runesL x.s.data.toList) (runesL y.s.data.toList))) ∧ Below w.heap.size w w' := by
  obtain ⟨xk, xn, xs⟩ := x
  obtain ⟨yk, yn, ys⟩ := y
  dsimp only at hx hy vx vy zx zy
  subst hx hy
  show Calls Tryz.prog 74 #[.agg #[.int .i64 2, .int .i64 xn, .string xs], .agg #[.int .i64 2, .int .i64 yn, .string ys]] w _
  dsimp only
  have hal := ((Below.refl w.heap.size w).alloc (Nat.le_refl _) (.cells #[.int .i64 2, .int .i64 xn, .string xs] 28))
  have hal2 := hal.alloc hal.size (.cells #[.int .i64 2, .int .i64 yn, .string ys] 28)
  have Hal := hide hal2
  have hdx := fun W => runes_ok xs W vx zx
  have hdy := fun W => runes_ok ys W vy zy
  have hyc := C.new (w.alloc (.cells #[.int .i64 2, .int .i64 xn, .string xs] 28)) #[.int .i64 2, .int .i64 yn, .string ys] 28 2 (v := .string ys) rfl
  rw [show (w.alloc (.cells #[.int .i64 2, .int .i64 xn, .string xs] 28)).heap.size = w.heap.size + 1 by simp] at hyc
  have Hyc := hide hyc
  obtain ⟨X, hX⟩ : ∃ X, runesL xs.data.toList = X := ⟨_, rfl⟩
  obtain ⟨Y, hY⟩ : ∃ Y, runesL ys.data.toList = Y := ⟨_, rfl⟩
  rw [hX] at hdx ⊢
  rw [hY] at hdy ⊢
  have hXr : ∀ r ∈ X, r ≤ 1114111 := by rw [← hX]; exact runesL_rune _ _ (Nat.le_refl _)
  have hYr : ∀ r ∈ Y, r ≤ 1114111 := by rw [← hY]; exact runesL_rune _ _ (Nat.le_refl _)
  have hXl : X.length ≤ 100000000 := by rw [← hX]; have := runesL_le xs.data.toList; rw [← size_len] at this; omega
  have hYl : Y.length ≤ 100000000 := by rw [← hY]; have := runesL_le ys.data.toList; rw [← size_len] at this; omega
  have Hdx := hide hdx
  have Hdy := hide hdy
  have HXr := hide hXr
  have HYr := hide hYr
  obtain ⟨G, hG⟩ : ∃ G, cmpN X Y = G := ⟨_, rfl⟩
  rw [hG]
  have HG := hide hG
  clear hal hal2 hdx hdy hX hY hXr hYr hyc vx vy zx zy hG
  obtain ⟨xl, hxl⟩ : ∃ xl, X.length = xl := ⟨_, rfl⟩
  obtain ⟨yl, hyl⟩ : ∃ yl, Y.length = yl := ⟨_, rfl⟩
  rw [hxl] at Hdx hXl
  rw [hyl] at Hdy hYl
  have Hxl := hide hxl
  have Hyl := hide hyl
  clear hxl hyl
  go_enter Tryz.func74, Tryz.ntmps74
  go_wp2_with fail
  refine (Hdx.out _).mono ?_
  rintro e w2 ⟨A, c, rfl, ho2, hb2⟩
  have hy2 := Hyc.out.below hb2
  have HO2 := hide ho2
  have HB2 := hide (below_chain Hal.out hb2)
  clear ho2 hb2 Hyc Hal
  go_wp2_with fail
  refine (Hdy.out _).mono ?_
  rintro e w3 ⟨A', c', rfl, ho3, hb3⟩
  have HX := hide ((Rd.of_own HO2.out).below hb3)
  have HY := hide (Rd.of_own ho3)
  have HB := hide (below_then HB2.out HB2.out.size hb3)
  clear ho3 hb3 HO2 HB2 hy2
  go_wp2_with fail
  go_loopw [9] (fun iv wr => ∃ k : Nat, k ≤ xl ∧ k ≤ yl ∧ iv = .int .i64 k ∧ Hid (cmpN (X.drop k) (Y.drop k) = G) ∧ Hid (Below w3.heap.size w3 wr)) (fun iv _ => xl - (intOf iv).toNat)
  case atStart => exact ⟨0, Nat.zero_le _, Nat.zero_le _, rfl, hide (by simpa using HG.out), hide (Below.refl _ _)⟩
  case round =>
    obtain ⟨k, hk1, hk2, rfl, HE, HR⟩ := hrel
    by_cases hlt : k < xl ∧ k < yl
    rotate_left
    · have hen := cmpN_end (X := X) (Y := Y) (k := k) (by have := Hxl.out; omega) (by have := Hyl.out; omega) (by have := Hxl.out; have := Hyl.out; omega)
      rw [HE.out, Hxl.out, Hyl.out] at hen
      have Hen := hide hen
      have HB4 := hide (below_then HB.out HB.out.size HR.out)
      have hs := sign_any (xl : Int) (yl : Int) wr
      have Hs := hide hs
      clear hen hs HE HX HY
      by_cases h1 : k < xl
      · have h2 : ¬ (k : Int) < (yl : Int) := by omega
        have h3 : (k : Int) < (xl : Int) := by omega
        go_wp2_with fail
        refine Hs.out.mono ?_
        rintro e w5 ⟨rfl, rfl⟩
        go_wp2_with fail
        go_ret
        exact ⟨by rw [Hen.out]; rfl, HB4.out⟩
      have h3 : ¬ (k : Int) < (xl : Int) := by omega
      go_wp2_with fail
      refine Hs.out.mono ?_
      rintro e w5 ⟨rfl, rfl⟩
      go_wp2_with fail
      go_ret
      exact ⟨by rw [Hen.out]; rfl, HB4.out⟩
    obtain ⟨h1, h2⟩ := hlt
    have g1 : k < X.length := by have := Hxl.out; omega
    have g2 : k < Y.length := by have := Hyl.out; omega
    obtain ⟨b, o, rfl, hc⟩ := (HX.out.below HR.out).some_ (by omega)
    obtain ⟨b', o', rfl, hc'⟩ := (HY.out.below HR.out).some_ (by omega)
    have c0 := (hc k (by have := (HX.out).1; omega)).trans (rns_get g1)
    have d0 := (hc' k (by have := (HY.out).1; omega)).trans (rns_get g2)
    have hst := cmpN_step g1 g2
    rw [HE.out] at hst
    have r1 : X[k] ≤ 1114111 := HXr.out _ (List.getElem_mem _)
    have r2 : Y[k] ≤ 1114111 := HYr.out _ (List.getElem_mem _)
    obtain ⟨p, hp⟩ : ∃ p, X[k] = p := ⟨_, rfl⟩
    obtain ⟨q, hq⟩ : ∃ q, Y[k] = q := ⟨_, rfl⟩
    rw [hp] at c0 hst r1
    rw [hq] at d0 hst r2
    have i1 : (k : Int) < (xl : Int) := by omega
    have i2 : (k : Int) < (yl : Int) := by omega
    clear hp hq hc hc'
    by_cases he : p = q
    · subst he
      rw [if_pos rfl] at hst
      have HE2 := hide hst.symm
      clear hst HE
      go_wp2_with fail
      go_quiet (fail)
      go_wp2_with fail
      exact ⟨⟨k + 1, by omega, by omega, by go_num, HE2, hide (below_drewN HR.out nq)⟩, by simp [intOf]; omega⟩
    rw [if_neg he] at hst
    have Hst := hide hst
    have hne : ((p : Int) != (q : Int)) = true := by simp; omega
    have hs := fun W => sign_any (p : Int) (q : Int) W
    have Hs := hide hs
    clear hst HE hs
    go_wp2_with fail
    go_quiet (fail)
    have c1 : C (wr.drewN nq) b (o + k) (.int .i32 (p : Int)) := c0
    have d1 : C (wr.drewN nq) b' (o' + k) (.int .i32 (q : Int)) := d0
    have hbn := below_then HB.out HB.out.size (below_drewN HR.out nq)
    clear c0 d0
    obtain ⟨W9, hW9⟩ : ∃ W9, wr.drewN nq = W9 := ⟨_, rfl⟩
    rw [hW9] at c1 d1 hbn ⊢
    clear hW9
    go_wp2_with fail
    go_quiet (first | (go_at_call 75; exact Calls.quiet_of_same (sign_any _ _ _)))
    go_wp2_with fail
    go_ret
    exact ⟨by rw [Hst.out]; rfl, below_drewN hbn _⟩
theorem oneV_any (x y : V) (w : World) (hx : okV x) (hy : okV y) : Calls Tryz.prog 74 #[x.val, y.val] w fun e w' => e = .returned (.int .i64 (cmpV x y)) ∧ Below w.heap.size w w' := by
  by_cases h : x.k = 2 ∧ y.k = 2
  · have e1 : cmpV x y = cmpN (runesL x.s.data.toList) (runesL y.s.data.toList) := by rw [cmpV, if_neg (by simp [h.1, h.2]), if_neg (by simp [h.1])]
    have vx : Lib.validD x.s.data.toList = true := by
      rcases right_kinds hx.1 with ⟨a0, _⟩ | ⟨a0, _⟩ | ⟨_, _, a2⟩ | ⟨a0, _⟩ <;> first | exact a2 | (have := h.1; omega)
    have vy : Lib.validD y.s.data.toList = true := by
      rcases right_kinds hy.1 with ⟨a0, _⟩ | ⟨a0, _⟩ | ⟨_, _, a2⟩ | ⟨a0, _⟩ <;> first | exact a2 | (have := h.2; omega)
    rw [e1]
    exact oneV_text x y w h.1 h.2 vx vy (by have := hx.2.2; omega) (by have := hy.2.2; omega)
  have h2 : x.k ≠ y.k ∨ x.k ≠ 2 := by
    by_cases hk : x.k = y.k
    · right; intro e; exact h ⟨e, by rw [← hk]; exact e⟩
    exact .inl hk
  have e1 : cmpV x y = if x.k ≠ y.k then sgn x.k y.k else sgn x.n y.n := by
    unfold cmpV
    by_cases hk : x.k = y.k
    · have e2 : ¬ (x.k ≠ y.k) := fun e => e hk
      rw [if_neg e2, if_neg e2, if_pos (h2.resolve_left e2)]
    rw [if_pos hk, if_pos hk]
  rw [e1]
  exact one_num x y w h2
set_option maxHeartbeats 3200000 in
set_option maxRecDepth 1000000 in
theorem compare_any (A B : Option Addr) (n c m d : Nat) (xs ys : List V) (w : World) (hlx : xs.length = n) (hly : ys.length = m) (hx : Rd w 3 A n (rowCells xs)) (hy : Rd w 3 B m (rowCells ys)) (hn : n ≤ 100000000)
    (okx : ∀ v ∈ xs, okV v) (oky : ∀ v ∈ ys, okV v) :
    Calls Tryz.prog 31 #[.slice A n c, .slice B m d] w fun e w' => e = .returned (.int .i64 (cmpVs xs ys)) ∧ Below w.heap.size w w' := by
  obtain ⟨G, hG⟩ : ∃ G, cmpVs xs ys = G := ⟨_, rfl⟩
  rw [hG]
  have HG := hide hG
  have HX := hide hx
  have HY := hide hy
  have HLX := hide hlx
  have HLY := hide hly
  have HOX := hide okx
  have HOY := hide oky
  clear hG hx hy hlx hly okx oky
  go_enter Tryz.func31, Tryz.ntmps31
  go_wp2_with fail
  go_loopw [5] (fun i wr => ∃ k : Nat, k ≤ n ∧ k ≤ m ∧ i = .int .i64 k ∧ Hid (cmpVs (xs.drop k) (ys.drop k) = G) ∧ Hid (Below w.heap.size w wr)) (fun i _ => n - (intOf i).toNat)
  case atStart => exact ⟨0, Nat.zero_le _, Nat.zero_le _, rfl, hide (by simpa using HG.out), hide (Below.refl _ _)⟩
  case round =>
    obtain ⟨k, hk1, hk2, rfl, HE, HB⟩ := hrel
    by_cases hlt : k < n ∧ k < m
    rotate_left
    · have hen := cmpVs_end (X := xs) (Y := ys) (k := k) (by have := HLX.out; omega) (by have := HLY.out; omega) (by have := HLX.out; have := HLY.out; omega)
      rw [HE.out, HLX.out, HLY.out] at hen
      have Hen := hide hen
      have hs := sign_any (n : Int) (m : Int) wr
      have Hs := hide hs
      clear hen hs HE HX HY
      by_cases h1 : k < n
      · have h2 : ¬ (k : Int) < (m : Int) := by omega
        have h3 : (k : Int) < (n : Int) := by omega
        go_wp2_with fail
        refine Hs.out.mono ?_
        rintro e w5 ⟨rfl, rfl⟩
        go_wp2_with fail
        go_ret
        exact ⟨by rw [Hen.out]; rfl, HB.out⟩
      have h3 : ¬ (k : Int) < (n : Int) := by omega
      go_wp2_with fail
      refine Hs.out.mono ?_
      rintro e w5 ⟨rfl, rfl⟩
      go_wp2_with fail
      go_ret
      exact ⟨by rw [Hen.out]; rfl, HB.out⟩
    obtain ⟨h1, h2⟩ := hlt
    have g1 : k < xs.length := by have := HLX.out; omega
    have g2 : k < ys.length := by have := HLY.out; omega
    obtain ⟨b, o, rfl, c0, c1, c2⟩ := Row.cells (l := xs) (by rw [HLX.out]; exact HX.out.below HB.out) k g1
    obtain ⟨b', o', rfl, d0, d1, d2⟩ := Row.cells (l := ys) (by rw [HLY.out]; exact HY.out.below HB.out) k g2
    have hst := cmpVs_step g1 g2
    rw [HE.out] at hst
    have o1 := HOX.out _ (List.getElem_mem g1)
    have o2 := HOY.out _ (List.getElem_mem g2)
    obtain ⟨x, hx⟩ : ∃ x, xs[k] = x := ⟨_, rfl⟩
    obtain ⟨y, hy⟩ : ∃ y, ys[k] = y := ⟨_, rfl⟩
    rw [hx] at c0 c1 c2 hst o1
    rw [hy] at d0 d1 d2 hst o2
    have hcon := fun W => oneV_any x y W o1 o2
    obtain ⟨S, hS⟩ : ∃ S, cmpV x y = S := ⟨_, rfl⟩
    rw [hS] at hcon hst
    obtain ⟨xk, xn, xz⟩ := x
    obtain ⟨yk, yn, yz⟩ := y
    dsimp only at c0 c1 c2 d0 d1 d2
    have hcon2 : ∀ W, Calls Tryz.prog 74 #[.agg #[.int .i64 xk, .int .i64 xn, .string xz], .agg #[.int .i64 yk, .int .i64 yn, .string yz]] W fun e w' => e = .returned (.int .i64 S) ∧ Below W.heap.size W w' := hcon
    have Hcon := hide hcon2
    have i1 : (k : Int) < (n : Int) := by omega
    have i2 : (k : Int) < (m : Int) := by omega
    have Hst := hide hst
    clear hx hy hcon hcon2 hS o1 o2 hst HE
    go_wp2_with fail
    go_region_law (first
      | (refine step_call (f := 74) (by rfl) (by rfl) (by rfl) (by simp [go_sem]) (Hcon.out _) ?_; rintro e w1 ⟨rfl, hb1⟩; refine ⟨_, rfl, ?_⟩)
      | fail)
    all_goals
      by_cases hz : S = 0
      · have HE2 := hide (by have := Hst.out; rw [if_pos hz] at this; exact this.symm : cmpVs (xs.drop (k + 1)) (ys.drop (k + 1)) = G)
        subst hz
        go_wp2_with fail
        go_roundw
        case rel => exact ⟨k + 1, by omega, by omega, by go_num, HE2, hide (below_then HB.out HB.out.size (below_chain (below_drewN (Below.refl _ wr) 1) hb1))⟩
        case measure => simp [intOf]; omega
      have hSG : S = G := by have := Hst.out; rw [if_neg hz] at this; exact this.symm
      subst hSG
      have hzb : (S != 0) = true := by simpa using hz
      go_wp2_with fail
      go_ret
      exact ⟨rfl, below_then HB.out HB.out.size (below_chain (below_drewN (Below.refl _ wr) 1) hb1)⟩
end Go.Proofs.YtekokogmnhlchaaGreatDoor
