import Derived.Test.YtekokogmnhlchaaGreatDoorD5
import Derived.Test.YtekokogmnhlchaaGreatDoorD6
import Derived.Test.YtekokogmnhlchaaGreatDoorA6
import Derived.Test.YtekokogmnhlchaaGreatDoorA3
import Derived.Test.YtekokogmnhlchaaGreatDoorD2
set_option linter.unusedSimpArgs false
set_option linter.unusedVariables false
set_option linter.unusedSectionVars false
namespace Go.Proofs.YtekokogmnhlchaaGreatDoor
open Go.RowKit
theorem cont_bad : ∀ n : Fin 256, n.val / 64 ≠ 2 → (bits .and .u8 ((n.val : Nat) : Int) 192 != 128) = true := by decide +kernel
theorem cont_ne {q : Nat} (hq : q < 256) (h : ¬ q / 64 = 2) : (bits .and .u8 (q : Int) 192 != 128) = true := cont_bad ⟨q, hq⟩ h
theorem bad_facts (s : ByteArray) (pos : Nat) (h : pos < s.size) (hv : Lib.validD (s.data.toList.drop pos) = false) :
    ((bat s pos 0 < 128 ∧ Lib.validD (s.data.toList.drop (pos + 1)) = false) ∨ (bat s pos 0 / 32 = 6 ∧ pos + 1 < s.size ∧ bat s pos 1 / 64 = 2 ∧ 128 ≤ bat s pos 0 % 32 * 64 + bat s pos 1 % 64 ∧ Lib.validD (s.data.toList.drop (pos + 2)) = false) ∨ (bat s pos 0 / 16 = 14 ∧ pos + 2 < s.size ∧ bat s pos 1 / 64 = 2 ∧ bat s pos 2 / 64 = 2 ∧ 2048 ≤ bat s pos 0 % 16 * 4096 + bat s pos 1 % 64 * 64 + bat s pos 2 % 64 ∧ (bat s pos 0 % 16 * 4096 + bat s pos 1 % 64 * 64 + bat s pos 2 % 64 < 55296 ∨ 57344 ≤ bat s pos 0 % 16 * 4096 + bat s pos 1 % 64 * 64 + bat s pos 2 % 64) ∧ Lib.validD (s.data.toList.drop (pos + 3)) = false) ∨ (bat s pos 0 / 8 = 30 ∧ pos + 3 < s.size ∧ bat s pos 1 / 64 = 2 ∧ bat s pos 2 / 64 = 2 ∧ bat s pos 3 / 64 = 2 ∧ 65536 ≤ bat s pos 0 % 8 * 262144 + bat s pos 1 % 64 * 4096 + bat s pos 2 % 64 * 64 + bat s pos 3 % 64 ∧ bat s pos 0 % 8 * 262144 + bat s pos 1 % 64 * 4096 + bat s pos 2 % 64 * 64 + bat s pos 3 % 64 ≤ 1114111 ∧ Lib.validD (s.data.toList.drop (pos + 4)) = false)) ∨
    (¬ bat s pos 0 < 128 ∧ ¬ (bat s pos 0 / 32 = 6 ∧ pos + 1 < s.size ∧ bat s pos 1 / 64 = 2 ∧ 128 ≤ bat s pos 0 % 32 * 64 + bat s pos 1 % 64) ∧ ¬ (bat s pos 0 / 16 = 14 ∧ pos + 2 < s.size ∧ bat s pos 1 / 64 = 2 ∧ bat s pos 2 / 64 = 2 ∧ 2048 ≤ bat s pos 0 % 16 * 4096 + bat s pos 1 % 64 * 64 + bat s pos 2 % 64 ∧ (bat s pos 0 % 16 * 4096 + bat s pos 1 % 64 * 64 + bat s pos 2 % 64 < 55296 ∨ 57344 ≤ bat s pos 0 % 16 * 4096 + bat s pos 1 % 64 * 64 + bat s pos 2 % 64)) ∧ ¬ (bat s pos 0 / 8 = 30 ∧ pos + 3 < s.size ∧ bat s pos 1 / 64 = 2 ∧ bat s pos 2 / 64 = 2 ∧ bat s pos 3 / 64 = 2 ∧ 65536 ≤ bat s pos 0 % 8 * 262144 + bat s pos 1 % 64 * 4096 + bat s pos 2 % 64 * 64 + bat s pos 3 % 64 ∧ bat s pos 0 % 8 * 262144 + bat s pos 1 % 64 * 4096 + bat s pos 2 % 64 * 64 + bat s pos 3 % 64 ≤ 1114111)) := by
  have hs := Lib.validD_step _ (drop_ne s pos h)
  rw [hv, Lib.decodeL_drop, List.drop_drop] at hs
  have hN := Lib.decode_N s pos
  have hz := size_len s
  have e0 : (s.data.toList.getD pos 0).toNat = bat s pos 0 := by rw [bat, Nat.add_zero]
  have e1 : (s.data.toList.getD (pos + 1) 0).toNat = bat s pos 1 := rfl
  have e2 : (s.data.toList.getD (pos + 2) 0).toNat = bat s pos 2 := rfl
  have e3 : (s.data.toList.getD (pos + 3) 0).toNat = bat s pos 3 := rfl
  rw [e0, e1, e2, e3, ← hz] at hN
  by_cases c1 : bat s pos 0 < 128
  · left; left
    have hd : Utf8.decode s pos = (bat s pos 0, 1) := by rw [hN]; unfold Lib.decodeN; rw [if_pos c1]
    rw [hd, if_neg (by intro hh; have := hh.1; simp only at this; omega)] at hs
    exact ⟨c1, hs.symm⟩
  by_cases c2 : (bat s pos 0 / 32 = 6 ∧ pos + 1 < s.size ∧ bat s pos 1 / 64 = 2 ∧ 128 ≤ bat s pos 0 % 32 * 64 + bat s pos 1 % 64)
  · left; right; left
    obtain ⟨h1, h2, h3, h4⟩ := c2
    have hd : Utf8.decode s pos = (bat s pos 0 % 32 * 64 + bat s pos 1 % 64, 2) := by rw [hN]; unfold Lib.decodeN; rw [if_neg c1, if_pos ⟨h1, by omega, h3⟩, if_pos h4]
    rw [hd, if_neg (by intro hh; have := hh.2; simp only at this; omega)] at hs
    exact ⟨h1, h2, h3, h4, hs.symm⟩
  by_cases c3 : (bat s pos 0 / 16 = 14 ∧ pos + 2 < s.size ∧ bat s pos 1 / 64 = 2 ∧ bat s pos 2 / 64 = 2 ∧ 2048 ≤ bat s pos 0 % 16 * 4096 + bat s pos 1 % 64 * 64 + bat s pos 2 % 64 ∧ (bat s pos 0 % 16 * 4096 + bat s pos 1 % 64 * 64 + bat s pos 2 % 64 < 55296 ∨ 57344 ≤ bat s pos 0 % 16 * 4096 + bat s pos 1 % 64 * 64 + bat s pos 2 % 64))
  · left; right; right; left
    obtain ⟨h1, h2, h3, h4, h5, h6⟩ := c3
    have hd : Utf8.decode s pos = (bat s pos 0 % 16 * 4096 + bat s pos 1 % 64 * 64 + bat s pos 2 % 64, 3) := by
      rw [hN]; unfold Lib.decodeN
      rw [if_neg c1, if_neg (by omega), if_pos ⟨h1, ⟨by omega, h3⟩, by omega, h4⟩, if_pos ⟨h5, by omega⟩]
    rw [hd, if_neg (by intro hh; have := hh.2; simp only at this; omega)] at hs
    exact ⟨h1, h2, h3, h4, h5, h6, hs.symm⟩
  by_cases c4 : (bat s pos 0 / 8 = 30 ∧ pos + 3 < s.size ∧ bat s pos 1 / 64 = 2 ∧ bat s pos 2 / 64 = 2 ∧ bat s pos 3 / 64 = 2 ∧ 65536 ≤ bat s pos 0 % 8 * 262144 + bat s pos 1 % 64 * 4096 + bat s pos 2 % 64 * 64 + bat s pos 3 % 64 ∧ bat s pos 0 % 8 * 262144 + bat s pos 1 % 64 * 4096 + bat s pos 2 % 64 * 64 + bat s pos 3 % 64 ≤ 1114111)
  · left; right; right; right
    obtain ⟨h1, h2, h3, h4, h5, h6, h7⟩ := c4
    have hd : Utf8.decode s pos = (bat s pos 0 % 8 * 262144 + bat s pos 1 % 64 * 4096 + bat s pos 2 % 64 * 64 + bat s pos 3 % 64, 4) := by
      rw [hN]; unfold Lib.decodeN
      rw [if_neg c1, if_neg (by omega), if_neg (by omega), if_pos ⟨h1, ⟨by omega, h3⟩, ⟨by omega, h4⟩, by omega, h5⟩, if_pos ⟨h6, by omega⟩]
    rw [hd, if_neg (by intro hh; have := hh.2; simp only at this; omega)] at hs
    exact ⟨h1, h2, h3, h4, h5, h6, h7, hs.symm⟩
  exact .inr ⟨c1, c2, c3, c4⟩
set_option maxHeartbeats 16000000 in
set_option maxRecDepth 1000000 in
theorem runes_bad (s : ByteArray) (w : World) (hv : Lib.validD s.data.toList = false) (hz : s.size ≤ 100000000) :
    Calls Tryz.prog 128 #[.string s] w fun e w' => e = .returned (.tuple #[.slice none 0 0, .bool false]) ∧ Below w.heap.size w w' := by
  have h0 := hide hv
  clear hv
  go_enter Tryz.func128, Tryz.ntmps128
  go_wp2_with fail
  go_loopw [4, 5] (fun ov iv wr => ∃ (k pos : Nat) (A : Option Addr) (c : Nat) (xs : List Value), k ≤ pos ∧ pos ≤ s.size ∧ iv = .int .i64 pos ∧ ov = .slice A k c ∧ Hid (Lib.validD (s.data.toList.drop pos) = false) ∧ Hid (wr.ownsRow w.heap.size 21 1 (.slice A k c) k xs) ∧ Hid (Below w.heap.size w wr)) (fun _ iv _ => s.size - (intOf iv).toNat)
  case atStart => exact ⟨0, 0, none, 0, [], Nat.zero_le _, Nat.zero_le _, rfl, rfl, hide (by simpa using h0.out), hide (World.ownsRow_nil _ _ _ _), hide (Below.refl _ _)⟩
  case round =>
    obtain ⟨k, pos, A, c, xs, hk, hp, rfl, rfl, HP, HO, HB⟩ := hrel
    by_cases hlt : pos < s.size
    rotate_left
    · have hpe : pos = s.size := by omega
      have := HP.out
      rw [hpe, List.drop_of_length_le (by rw [← size_len]; exact Nat.le_refl _), Lib.validD_nil] at this
      cases this
    have hki : (pos : Int) < (s.size : Int) := by omega
    have hcl := bad_facts s pos hlt HP.out
    have hbs := HB.out.size
    have e0 : s[pos].toNat = bat s pos 0 := bat_get s pos 0 hlt
    obtain ⟨q0, hq0⟩ : ∃ q, bat s pos 0 = q := ⟨_, rfl⟩
    have l0 : q0 < 256 := by rw [← hq0]; exact bat_lt _ _ _
    have hq : ∀ h : pos < s.size, s[pos].toNat = q0 := fun h => e0.trans hq0
    rw [hq0] at hcl
    clear e0 hq0
    rcases hcl with hcl | hcl
    · have fin : ∀ (wd : Nat), Lib.validD (s.data.toList.drop (pos + wd)) = false → ∀ A2 c2 (w3 : World) (v : Value), w3.ownsRow w.heap.size 21 1 (.slice A2 (k + 1) c2) (k + 1) (xs ++ [v]) → Below w.heap.size wr w3 →
          Lib.validD (s.data.toList.drop (pos + wd)) = false ∧ w3.ownsRow w.heap.size 21 1 (.slice A2 (k + 1) c2) (k + 1) (xs ++ [v]) ∧ Below w.heap.size w w3 := fun wd h A2 c2 w3 v hown hb => ⟨h, hown, HB.out.trans hb⟩
      have Fin := hide fin
      clear fin
      rcases hcl with ⟨h1, he⟩ | ⟨h1, h2, h3, h4, he⟩ | ⟨h1, h2, h3, h4, h5, h6, he⟩ | ⟨h1, h2, h3, h4, h5, h6, h7, he⟩
      · have F1 := hide (Fin.out _ he)
        have t0 : (q0 : Int) < 128 := by omega
        have t3 : (pos : Int) + 1 ≤ s.size := by omega
        have v1 : ¬ (55296 : Int) ≤ (q0 : Int) := by omega
        clear he Fin
        as_aux_lemma =>
          go_wp2_with fail
          refine wp_loop_rounds 1 ?_
          rw [rounds_succ]
          go_wp2_with (at_builtin; refine wp_lit r32T rfl rfl HO.out rfl rfl (by simp) (by rfl) (by simp [Value.oneCell']) (by omega) (by omega) hbs ?_; intro A2 c2 w3 hown3 hb3 hg3)
          have F2 := F1.out A2 c2 w3 _ (by simpa using hown3) hb3
          exact ⟨⟨k + 1, pos + 1, A2, c2, _, by omega, by omega, by go_num, rfl, hide F2.1, hide F2.2.1, hide F2.2.2⟩, by simp [intOf]; omega⟩
      · have F1 := hide (Fin.out _ he)
        have hn1 := bat_get s pos 1 (by omega)
        obtain ⟨q1, hq1⟩ : ∃ q, bat s pos 1 = q := ⟨_, rfl⟩
        have l1 : q1 < 256 := by rw [← hq1]; exact bat_lt _ _ _
        have hqq1 : ∀ h : pos + 1 < s.size, s[pos + 1].toNat = q1 := fun h => hn1.trans hq1
        simp only [hq1] at h3 h4
        have t0 : ¬ ((q0 : Int) < 128) := by omega
        have t1 : (194 : Int) ≤ q0 := by omega
        have t2 : (q0 : Int) < 224 := by omega
        have t3 : (pos : Int) + 2 ≤ s.size := by omega
        obtain ⟨p0, hp0⟩ : ∃ p : Int, (q0 : Int) % 32 = p := ⟨_, rfl⟩
        have b1 : bits .and .u8 (q0 : Int) 31 = p0 := hp0 ▸ u8_and31 _ (by omega) (by omega)
        have z0 : 0 ≤ p0 ∧ p0 < 32 := by omega
        have m1 := cont_of (q := q1) (by omega)
        obtain ⟨r1, hr1⟩ : ∃ p : Int, (q1 : Int) % 64 = p := ⟨_, rfl⟩
        have y1 : 0 ≤ r1 ∧ r1 < 64 := by omega
        have e1 : bits .and .u8 (q1 : Int) 63 = r1 := hr1 ▸ u8_and63 _ (by omega) (by omega)
        obtain ⟨p1, hp1⟩ : ∃ p : Int, p0 * 64 + r1 = p := ⟨_, rfl⟩
        have o1 : bits .or .i32 (p0 * 64) r1 = p1 := hp1 ▸ or_64 _ _ (by omega) (by omega) (by omega) (by omega)
        have z1 : 0 ≤ p1 ∧ p1 < 2048 := by omega
        have v1 : ¬ (55296 : Int) ≤ p1 := by omega
        clear he Fin hn1 hq1 hp1 hr1 hp0 h1 h3 h4 l1 l0
        as_aux_lemma =>
          go_wp2_with fail
          refine wp_loop_rounds 2 ?_
          rw [rounds_succ]
          go_wp2_with fail
          rw [rounds_succ]
          go_wp2_with (at_builtin; refine wp_lit r32T rfl rfl HO.out rfl rfl (by simp) (by rfl) (by simp [Value.oneCell']) (by omega) (by omega) hbs ?_; intro A2 c2 w3 hown3 hb3 hg3)
          have F2 := F1.out A2 c2 w3 _ (by simpa using hown3) hb3
          exact ⟨⟨k + 1, pos + 2, A2, c2, _, by omega, by omega, by go_num, rfl, hide F2.1, hide F2.2.1, hide F2.2.2⟩, by simp [intOf]; omega⟩
      · have F1 := hide (Fin.out _ he)
        have hn1 := bat_get s pos 1 (by omega)
        have hn2 := bat_get s pos 2 (by omega)
        obtain ⟨q1, hq1⟩ : ∃ q, bat s pos 1 = q := ⟨_, rfl⟩
        have l1 : q1 < 256 := by rw [← hq1]; exact bat_lt _ _ _
        obtain ⟨q2, hq2⟩ : ∃ q, bat s pos 2 = q := ⟨_, rfl⟩
        have l2 : q2 < 256 := by rw [← hq2]; exact bat_lt _ _ _
        have hqq1 : ∀ h : pos + 1 < s.size, s[pos + 1].toNat = q1 := fun h => hn1.trans hq1
        have hqq2 : ∀ h : pos + 2 < s.size, s[pos + 2].toNat = q2 := fun h => hn2.trans hq2
        simp only [hq1, hq2] at h3 h4 h5 h6
        have t0 : ¬ ((q0 : Int) < 128) := by omega
        have t1 : (194 : Int) ≤ q0 := by omega
        have t2 : ¬ (q0 : Int) < 224 := by omega
        have t4 : (224 : Int) ≤ q0 := by omega
        have t5 : (q0 : Int) < 240 := by omega
        have t3 : (pos : Int) + 3 ≤ s.size := by omega
        obtain ⟨p0, hp0⟩ : ∃ p : Int, (q0 : Int) % 16 = p := ⟨_, rfl⟩
        have b1 : bits .and .u8 (q0 : Int) 15 = p0 := hp0 ▸ u8_and15 _ (by omega) (by omega)
        have z0 : 0 ≤ p0 ∧ p0 < 16 := by omega
        have m1 := cont_of (q := q1) (by omega)
        obtain ⟨r1, hr1⟩ : ∃ p : Int, (q1 : Int) % 64 = p := ⟨_, rfl⟩
        have y1 : 0 ≤ r1 ∧ r1 < 64 := by omega
        have e1 : bits .and .u8 (q1 : Int) 63 = r1 := hr1 ▸ u8_and63 _ (by omega) (by omega)
        obtain ⟨p1, hp1⟩ : ∃ p : Int, p0 * 64 + r1 = p := ⟨_, rfl⟩
        have o1 : bits .or .i32 (p0 * 64) r1 = p1 := hp1 ▸ or_64 _ _ (by omega) (by omega) (by omega) (by omega)
        have z1 : 0 ≤ p1 ∧ p1 < 1024 := by omega
        have m2 := cont_of (q := q2) (by omega)
        obtain ⟨r2, hr2⟩ : ∃ p : Int, (q2 : Int) % 64 = p := ⟨_, rfl⟩
        have y2 : 0 ≤ r2 ∧ r2 < 64 := by omega
        have e2 : bits .and .u8 (q2 : Int) 63 = r2 := hr2 ▸ u8_and63 _ (by omega) (by omega)
        obtain ⟨p2, hp2⟩ : ∃ p : Int, p1 * 64 + r2 = p := ⟨_, rfl⟩
        have o2 : bits .or .i32 (p1 * 64) r2 = p2 := hp2 ▸ or_64 _ _ (by omega) (by omega) (by omega) (by omega)
        have z2 : 0 ≤ p2 ∧ p2 < 65536 := by omega
        have v1 : ¬ p2 < 2048 := by omega
        have hv3 : (¬ (55296 : Int) ≤ p2) ∨ ((55296 : Int) ≤ p2 ∧ ¬ p2 < 57344) := by omega
        clear he Fin hn1 hq1 hn2 hq2 hp1 hp2 hr1 hr2 hp0 h1 h3 h4 h5 h6 l1 l2 l0
        as_aux_lemma =>
          go_wp2_with fail
          refine wp_loop_rounds 3 ?_
          rw [rounds_succ]
          go_wp2_with fail
          rw [rounds_succ]
          go_wp2_with fail
          rw [rounds_succ]
          rcases hv3 with v2 | ⟨v2, v3⟩
          · go_wp2_with (at_builtin; refine wp_lit r32T rfl rfl HO.out rfl rfl (by simp) (by rfl) (by simp [Value.oneCell']) (by omega) (by omega) hbs ?_; intro A2 c2 w3 hown3 hb3 hg3)
            have F2 := F1.out A2 c2 w3 _ (by simpa using hown3) hb3
            exact ⟨⟨k + 1, pos + 3, A2, c2, _, by omega, by omega, by go_num, rfl, hide F2.1, hide F2.2.1, hide F2.2.2⟩, by simp [intOf]; omega⟩
          go_wp2_with (at_builtin; refine wp_lit r32T rfl rfl HO.out rfl rfl (by simp) (by rfl) (by simp [Value.oneCell']) (by omega) (by omega) hbs ?_; intro A2 c2 w3 hown3 hb3 hg3)
          have F2 := F1.out A2 c2 w3 _ (by simpa using hown3) hb3
          exact ⟨⟨k + 1, pos + 3, A2, c2, _, by omega, by omega, by go_num, rfl, hide F2.1, hide F2.2.1, hide F2.2.2⟩, by simp [intOf]; omega⟩
      have F1 := hide (Fin.out _ he)
      have hn1 := bat_get s pos 1 (by omega)
      have hn2 := bat_get s pos 2 (by omega)
      have hn3 := bat_get s pos 3 (by omega)
      obtain ⟨q1, hq1⟩ : ∃ q, bat s pos 1 = q := ⟨_, rfl⟩
      have l1 : q1 < 256 := by rw [← hq1]; exact bat_lt _ _ _
      obtain ⟨q2, hq2⟩ : ∃ q, bat s pos 2 = q := ⟨_, rfl⟩
      have l2 : q2 < 256 := by rw [← hq2]; exact bat_lt _ _ _
      obtain ⟨q3, hq3⟩ : ∃ q, bat s pos 3 = q := ⟨_, rfl⟩
      have l3 : q3 < 256 := by rw [← hq3]; exact bat_lt _ _ _
      have hqq1 : ∀ h : pos + 1 < s.size, s[pos + 1].toNat = q1 := fun h => hn1.trans hq1
      have hqq2 : ∀ h : pos + 2 < s.size, s[pos + 2].toNat = q2 := fun h => hn2.trans hq2
      have hqq3 : ∀ h : pos + 3 < s.size, s[pos + 3].toNat = q3 := fun h => hn3.trans hq3
      simp only [hq1, hq2, hq3] at h3 h4 h5 h6 h7
      have t0 : ¬ ((q0 : Int) < 128) := by omega
      have t1 : (194 : Int) ≤ q0 := by omega
      have t2 : ¬ (q0 : Int) < 224 := by omega
      have t4 : (224 : Int) ≤ q0 := by omega
      have t5 : ¬ (q0 : Int) < 240 := by omega
      have t6 : (240 : Int) ≤ q0 := by omega
      have t7 : (q0 : Int) < 245 := by omega
      have t3 : (pos : Int) + 4 ≤ s.size := by omega
      obtain ⟨p0, hp0⟩ : ∃ p : Int, (q0 : Int) % 8 = p := ⟨_, rfl⟩
      have b1 : bits .and .u8 (q0 : Int) 7 = p0 := hp0 ▸ u8_and7 _ (by omega) (by omega)
      have z0 : 0 ≤ p0 ∧ p0 < 8 := by omega
      have m1 := cont_of (q := q1) (by omega)
      obtain ⟨r1, hr1⟩ : ∃ p : Int, (q1 : Int) % 64 = p := ⟨_, rfl⟩
      have y1 : 0 ≤ r1 ∧ r1 < 64 := by omega
      have e1 : bits .and .u8 (q1 : Int) 63 = r1 := hr1 ▸ u8_and63 _ (by omega) (by omega)
      obtain ⟨p1, hp1⟩ : ∃ p : Int, p0 * 64 + r1 = p := ⟨_, rfl⟩
      have o1 : bits .or .i32 (p0 * 64) r1 = p1 := hp1 ▸ or_64 _ _ (by omega) (by omega) (by omega) (by omega)
      have z1 : 0 ≤ p1 ∧ p1 < 512 := by omega
      have m2 := cont_of (q := q2) (by omega)
      obtain ⟨r2, hr2⟩ : ∃ p : Int, (q2 : Int) % 64 = p := ⟨_, rfl⟩
      have y2 : 0 ≤ r2 ∧ r2 < 64 := by omega
      have e2 : bits .and .u8 (q2 : Int) 63 = r2 := hr2 ▸ u8_and63 _ (by omega) (by omega)
      obtain ⟨p2, hp2⟩ : ∃ p : Int, p1 * 64 + r2 = p := ⟨_, rfl⟩
      have o2 : bits .or .i32 (p1 * 64) r2 = p2 := hp2 ▸ or_64 _ _ (by omega) (by omega) (by omega) (by omega)
      have z2 : 0 ≤ p2 ∧ p2 < 32768 := by omega
      have m3 := cont_of (q := q3) (by omega)
      obtain ⟨r3, hr3⟩ : ∃ p : Int, (q3 : Int) % 64 = p := ⟨_, rfl⟩
      have y3 : 0 ≤ r3 ∧ r3 < 64 := by omega
      have e3 : bits .and .u8 (q3 : Int) 63 = r3 := hr3 ▸ u8_and63 _ (by omega) (by omega)
      obtain ⟨p3, hp3⟩ : ∃ p : Int, p2 * 64 + r3 = p := ⟨_, rfl⟩
      have o3 : bits .or .i32 (p2 * 64) r3 = p3 := hp3 ▸ or_64 _ _ (by omega) (by omega) (by omega) (by omega)
      have z3 : 0 ≤ p3 ∧ p3 < 2097152 := by omega
      have v1 : ¬ p3 < 65536 := by omega
      have v2 : ¬ (1114111 : Int) < p3 := by omega
      have v3 : (55296 : Int) ≤ p3 := by omega
      have v4 : ¬ p3 < 57344 := by omega
      clear he Fin hn1 hq1 hn2 hq2 hn3 hq3 hp1 hp2 hp3 hr1 hr2 hr3 hp0 h1 h3 h4 h5 h6 h7 l1 l2 l3 l0
      as_aux_lemma =>
        go_wp2_with fail
        refine wp_loop_rounds 4 ?_
        rw [rounds_succ]
        go_wp2_with fail
        rw [rounds_succ]
        go_wp2_with fail
        rw [rounds_succ]
        go_wp2_with fail
        rw [rounds_succ]
        go_wp2_with (at_builtin; refine wp_lit r32T rfl rfl HO.out rfl rfl (by simp) (by rfl) (by simp [Value.oneCell']) (by omega) (by omega) hbs ?_; intro A2 c2 w3 hown3 hb3 hg3)
        have F2 := F1.out A2 c2 w3 _ (by simpa using hown3) hb3
        exact ⟨⟨k + 1, pos + 4, A2, c2, _, by omega, by omega, by go_num, rfl, hide F2.1, hide F2.2.1, hide F2.2.2⟩, by simp [intOf]; omega⟩
    clear HO
    obtain ⟨g1, g2, g3, g4⟩ := hcl
    have t0 : ¬ ((q0 : Int) < 128) := by omega
    by_cases c1 : q0 < 194
    · have t1 : ¬ (194 : Int) ≤ q0 := by omega
      have t2 : ¬ (224 : Int) ≤ q0 := by omega
      have t3 : ¬ (240 : Int) ≤ q0 := by omega
      clear g1 g2 g3 g4
      as_aux_lemma =>
        go_wp2_with fail
        go_ret2
        exact ⟨rfl, HB.out⟩
    by_cases c2 : q0 < 224
    · have t1 : (194 : Int) ≤ q0 := by omega
      have t2 : (q0 : Int) < 224 := by omega
      by_cases d0 : pos + 2 ≤ s.size
      rotate_left
      · have t9 : ¬ (pos : Int) + 2 ≤ s.size := by omega
        obtain ⟨p0, hp0⟩ : ∃ p : Int, (q0 : Int) % 32 = p := ⟨_, rfl⟩
        have b1 : bits .and .u8 (q0 : Int) 31 = p0 := hp0 ▸ u8_and31 _ (by omega) (by omega)
        have z0 : 0 ≤ p0 ∧ p0 < 32 := by omega
        clear g1 g2 g3 g4
        as_aux_lemma =>
          go_wp2_with fail
          go_ret2
          exact ⟨rfl, HB.out⟩
      have t9 : (pos : Int) + 2 ≤ s.size := by omega
      have hn1 := bat_get s pos 1 (by omega)
      obtain ⟨q1, hq1⟩ : ∃ q, bat s pos 1 = q := ⟨_, rfl⟩
      have l1 : q1 < 256 := by rw [← hq1]; exact bat_lt _ _ _
      have hqq1 : ∀ h : pos + 1 < s.size, s[pos + 1].toNat = q1 := fun h => hn1.trans hq1
      simp only [hq1] at g2
      by_cases m1' : q1 / 64 = 2
      · have m1 := cont_of m1'
        obtain ⟨p0, hp0⟩ : ∃ p : Int, (q0 : Int) % 32 = p := ⟨_, rfl⟩
        have b1 : bits .and .u8 (q0 : Int) 31 = p0 := hp0 ▸ u8_and31 _ (by omega) (by omega)
        have z0 : 0 ≤ p0 ∧ p0 < 32 := by omega
        obtain ⟨r1, hr1⟩ : ∃ p : Int, (q1 : Int) % 64 = p := ⟨_, rfl⟩
        have y1 : 0 ≤ r1 ∧ r1 < 64 := by omega
        have e1 : bits .and .u8 (q1 : Int) 63 = r1 := hr1 ▸ u8_and63 _ (by omega) (by omega)
        obtain ⟨p1, hp1⟩ : ∃ p : Int, p0 * 64 + r1 = p := ⟨_, rfl⟩
        have o1 : bits .or .i32 (p0 * 64) r1 = p1 := hp1 ▸ or_64 _ _ (by omega) (by omega) (by omega) (by omega)
        have z1 : 0 ≤ p1 ∧ p1 < 2048 := by omega
        exact absurd ⟨by omega, by omega, by omega, by omega⟩ g2
      have m1 := cont_ne (q := q1) (by omega) m1'
      obtain ⟨p0, hp0⟩ : ∃ p : Int, (q0 : Int) % 32 = p := ⟨_, rfl⟩
      have b1 : bits .and .u8 (q0 : Int) 31 = p0 := hp0 ▸ u8_and31 _ (by omega) (by omega)
      have z0 : 0 ≤ p0 ∧ p0 < 32 := by omega
      clear g1 g2 g3 g4
      as_aux_lemma =>
        go_wp2_with fail
        refine wp_loop_rounds 1 ?_
        rw [rounds_succ]
        go_wp2_with fail
        go_ret2
        exact ⟨rfl, HB.out⟩
    by_cases c3 : q0 < 240
    · have t1 : (194 : Int) ≤ q0 := by omega
      have t2 : ¬ (q0 : Int) < 224 := by omega
      have t4 : (224 : Int) ≤ q0 := by omega
      have t5 : (q0 : Int) < 240 := by omega
      by_cases d0 : pos + 3 ≤ s.size
      rotate_left
      · have t9 : ¬ (pos : Int) + 3 ≤ s.size := by omega
        obtain ⟨p0, hp0⟩ : ∃ p : Int, (q0 : Int) % 16 = p := ⟨_, rfl⟩
        have b1 : bits .and .u8 (q0 : Int) 15 = p0 := hp0 ▸ u8_and15 _ (by omega) (by omega)
        have z0 : 0 ≤ p0 ∧ p0 < 16 := by omega
        clear g1 g2 g3 g4
        as_aux_lemma =>
          go_wp2_with fail
          go_ret2
          exact ⟨rfl, HB.out⟩
      have t9 : (pos : Int) + 3 ≤ s.size := by omega
      have hn1 := bat_get s pos 1 (by omega)
      obtain ⟨q1, hq1⟩ : ∃ q, bat s pos 1 = q := ⟨_, rfl⟩
      have l1 : q1 < 256 := by rw [← hq1]; exact bat_lt _ _ _
      have hqq1 : ∀ h : pos + 1 < s.size, s[pos + 1].toNat = q1 := fun h => hn1.trans hq1
      have hn2 := bat_get s pos 2 (by omega)
      obtain ⟨q2, hq2⟩ : ∃ q, bat s pos 2 = q := ⟨_, rfl⟩
      have l2 : q2 < 256 := by rw [← hq2]; exact bat_lt _ _ _
      have hqq2 : ∀ h : pos + 2 < s.size, s[pos + 2].toNat = q2 := fun h => hn2.trans hq2
      simp only [hq1, hq2] at g3
      by_cases m1' : q1 / 64 = 2
      rotate_left
      · have m1 := cont_ne (q := q1) (by omega) m1'
        obtain ⟨p0, hp0⟩ : ∃ p : Int, (q0 : Int) % 16 = p := ⟨_, rfl⟩
        have b1 : bits .and .u8 (q0 : Int) 15 = p0 := hp0 ▸ u8_and15 _ (by omega) (by omega)
        have z0 : 0 ≤ p0 ∧ p0 < 16 := by omega
        clear g1 g2 g3 g4
        as_aux_lemma =>
          go_wp2_with fail
          refine wp_loop_rounds 1 ?_
          rw [rounds_succ]
          go_wp2_with fail
          go_ret2
          exact ⟨rfl, HB.out⟩
      have m1 := cont_of m1'
      by_cases m2' : q2 / 64 = 2
      rotate_left
      · have m2 := cont_ne (q := q2) (by omega) m2'
        obtain ⟨p0, hp0⟩ : ∃ p : Int, (q0 : Int) % 16 = p := ⟨_, rfl⟩
        have b1 : bits .and .u8 (q0 : Int) 15 = p0 := hp0 ▸ u8_and15 _ (by omega) (by omega)
        have z0 : 0 ≤ p0 ∧ p0 < 16 := by omega
        obtain ⟨r1, hr1⟩ : ∃ p : Int, (q1 : Int) % 64 = p := ⟨_, rfl⟩
        have y1 : 0 ≤ r1 ∧ r1 < 64 := by omega
        have e1 : bits .and .u8 (q1 : Int) 63 = r1 := hr1 ▸ u8_and63 _ (by omega) (by omega)
        obtain ⟨p1, hp1⟩ : ∃ p : Int, p0 * 64 + r1 = p := ⟨_, rfl⟩
        have o1 : bits .or .i32 (p0 * 64) r1 = p1 := hp1 ▸ or_64 _ _ (by omega) (by omega) (by omega) (by omega)
        have z1 : 0 ≤ p1 ∧ p1 < 1024 := by omega
        clear g1 g2 g3 g4
        as_aux_lemma =>
          go_wp2_with fail
          refine wp_loop_rounds 2 ?_
          rw [rounds_succ]
          go_wp2_with fail
          rw [rounds_succ]
          go_wp2_with fail
          go_ret2
          exact ⟨rfl, HB.out⟩
      have m2 := cont_of m2'
      obtain ⟨p0, hp0⟩ : ∃ p : Int, (q0 : Int) % 16 = p := ⟨_, rfl⟩
      have b1 : bits .and .u8 (q0 : Int) 15 = p0 := hp0 ▸ u8_and15 _ (by omega) (by omega)
      have z0 : 0 ≤ p0 ∧ p0 < 16 := by omega
      obtain ⟨r1, hr1⟩ : ∃ p : Int, (q1 : Int) % 64 = p := ⟨_, rfl⟩
      have y1 : 0 ≤ r1 ∧ r1 < 64 := by omega
      have e1 : bits .and .u8 (q1 : Int) 63 = r1 := hr1 ▸ u8_and63 _ (by omega) (by omega)
      obtain ⟨p1, hp1⟩ : ∃ p : Int, p0 * 64 + r1 = p := ⟨_, rfl⟩
      have o1 : bits .or .i32 (p0 * 64) r1 = p1 := hp1 ▸ or_64 _ _ (by omega) (by omega) (by omega) (by omega)
      have z1 : 0 ≤ p1 ∧ p1 < 1024 := by omega
      obtain ⟨r2, hr2⟩ : ∃ p : Int, (q2 : Int) % 64 = p := ⟨_, rfl⟩
      have y2 : 0 ≤ r2 ∧ r2 < 64 := by omega
      have e2 : bits .and .u8 (q2 : Int) 63 = r2 := hr2 ▸ u8_and63 _ (by omega) (by omega)
      obtain ⟨p2, hp2⟩ : ∃ p : Int, p1 * 64 + r2 = p := ⟨_, rfl⟩
      have o2 : bits .or .i32 (p1 * 64) r2 = p2 := hp2 ▸ or_64 _ _ (by omega) (by omega) (by omega) (by omega)
      have z2 : 0 ≤ p2 ∧ p2 < 65536 := by omega
      have v0 : p2 < 2048 ∨ (¬ p2 < 2048 ∧ (55296 : Int) ≤ p2 ∧ p2 < 57344) := by omega
      rcases v0 with v0 | ⟨v0, v1, v2⟩
      · clear g1 g2 g3 g4
        as_aux_lemma =>
          go_wp2_with fail
          refine wp_loop_rounds 3 ?_
          rw [rounds_succ]
          go_wp2_with fail
          rw [rounds_succ]
          go_wp2_with fail
          rw [rounds_succ]
          go_wp2_with fail
          go_ret2
          exact ⟨rfl, HB.out⟩
      clear g1 g2 g3 g4
      as_aux_lemma =>
        go_wp2_with fail
        refine wp_loop_rounds 3 ?_
        rw [rounds_succ]
        go_wp2_with fail
        rw [rounds_succ]
        go_wp2_with fail
        rw [rounds_succ]
        go_wp2_with fail
        go_ret2
        exact ⟨rfl, HB.out⟩
    by_cases c4 : q0 < 245
    rotate_left
    · have t1 : (194 : Int) ≤ q0 := by omega
      have t2 : ¬ (q0 : Int) < 224 := by omega
      have t4 : (224 : Int) ≤ q0 := by omega
      have t5 : ¬ (q0 : Int) < 240 := by omega
      have t6 : (240 : Int) ≤ q0 := by omega
      have t7 : ¬ (q0 : Int) < 245 := by omega
      clear g1 g2 g3 g4
      as_aux_lemma =>
        go_wp2_with fail
        go_ret2
        exact ⟨rfl, HB.out⟩
    have t1 : (194 : Int) ≤ q0 := by omega
    have t2 : ¬ (q0 : Int) < 224 := by omega
    have t4 : (224 : Int) ≤ q0 := by omega
    have t5 : ¬ (q0 : Int) < 240 := by omega
    have t6 : (240 : Int) ≤ q0 := by omega
    have t7 : (q0 : Int) < 245 := by omega
    by_cases d0 : pos + 4 ≤ s.size
    rotate_left
    · have t9 : ¬ (pos : Int) + 4 ≤ s.size := by omega
      obtain ⟨p0, hp0⟩ : ∃ p : Int, (q0 : Int) % 8 = p := ⟨_, rfl⟩
      have b1 : bits .and .u8 (q0 : Int) 7 = p0 := hp0 ▸ u8_and7 _ (by omega) (by omega)
      have z0 : 0 ≤ p0 ∧ p0 < 8 := by omega
      clear g1 g2 g3 g4
      as_aux_lemma =>
        go_wp2_with fail
        go_ret2
        exact ⟨rfl, HB.out⟩
    have t9 : (pos : Int) + 4 ≤ s.size := by omega
    have hn1 := bat_get s pos 1 (by omega)
    obtain ⟨q1, hq1⟩ : ∃ q, bat s pos 1 = q := ⟨_, rfl⟩
    have l1 : q1 < 256 := by rw [← hq1]; exact bat_lt _ _ _
    have hqq1 : ∀ h : pos + 1 < s.size, s[pos + 1].toNat = q1 := fun h => hn1.trans hq1
    have hn2 := bat_get s pos 2 (by omega)
    obtain ⟨q2, hq2⟩ : ∃ q, bat s pos 2 = q := ⟨_, rfl⟩
    have l2 : q2 < 256 := by rw [← hq2]; exact bat_lt _ _ _
    have hqq2 : ∀ h : pos + 2 < s.size, s[pos + 2].toNat = q2 := fun h => hn2.trans hq2
    have hn3 := bat_get s pos 3 (by omega)
    obtain ⟨q3, hq3⟩ : ∃ q, bat s pos 3 = q := ⟨_, rfl⟩
    have l3 : q3 < 256 := by rw [← hq3]; exact bat_lt _ _ _
    have hqq3 : ∀ h : pos + 3 < s.size, s[pos + 3].toNat = q3 := fun h => hn3.trans hq3
    simp only [hq1, hq2, hq3] at g4
    by_cases m1' : q1 / 64 = 2
    rotate_left
    · have m1 := cont_ne (q := q1) (by omega) m1'
      obtain ⟨p0, hp0⟩ : ∃ p : Int, (q0 : Int) % 8 = p := ⟨_, rfl⟩
      have b1 : bits .and .u8 (q0 : Int) 7 = p0 := hp0 ▸ u8_and7 _ (by omega) (by omega)
      have z0 : 0 ≤ p0 ∧ p0 < 8 := by omega
      clear g1 g2 g3 g4
      as_aux_lemma =>
        go_wp2_with fail
        refine wp_loop_rounds 1 ?_
        rw [rounds_succ]
        go_wp2_with fail
        go_ret2
        exact ⟨rfl, HB.out⟩
    have m1 := cont_of m1'
    by_cases m2' : q2 / 64 = 2
    rotate_left
    · have m2 := cont_ne (q := q2) (by omega) m2'
      obtain ⟨p0, hp0⟩ : ∃ p : Int, (q0 : Int) % 8 = p := ⟨_, rfl⟩
      have b1 : bits .and .u8 (q0 : Int) 7 = p0 := hp0 ▸ u8_and7 _ (by omega) (by omega)
      have z0 : 0 ≤ p0 ∧ p0 < 8 := by omega
      obtain ⟨r1, hr1⟩ : ∃ p : Int, (q1 : Int) % 64 = p := ⟨_, rfl⟩
      have y1 : 0 ≤ r1 ∧ r1 < 64 := by omega
      have e1 : bits .and .u8 (q1 : Int) 63 = r1 := hr1 ▸ u8_and63 _ (by omega) (by omega)
      obtain ⟨p1, hp1⟩ : ∃ p : Int, p0 * 64 + r1 = p := ⟨_, rfl⟩
      have o1 : bits .or .i32 (p0 * 64) r1 = p1 := hp1 ▸ or_64 _ _ (by omega) (by omega) (by omega) (by omega)
      have z1 : 0 ≤ p1 ∧ p1 < 512 := by omega
      clear g1 g2 g3 g4
      as_aux_lemma =>
        go_wp2_with fail
        refine wp_loop_rounds 2 ?_
        rw [rounds_succ]
        go_wp2_with fail
        rw [rounds_succ]
        go_wp2_with fail
        go_ret2
        exact ⟨rfl, HB.out⟩
    have m2 := cont_of m2'
    by_cases m3' : q3 / 64 = 2
    rotate_left
    · have m3 := cont_ne (q := q3) (by omega) m3'
      obtain ⟨p0, hp0⟩ : ∃ p : Int, (q0 : Int) % 8 = p := ⟨_, rfl⟩
      have b1 : bits .and .u8 (q0 : Int) 7 = p0 := hp0 ▸ u8_and7 _ (by omega) (by omega)
      have z0 : 0 ≤ p0 ∧ p0 < 8 := by omega
      obtain ⟨r1, hr1⟩ : ∃ p : Int, (q1 : Int) % 64 = p := ⟨_, rfl⟩
      have y1 : 0 ≤ r1 ∧ r1 < 64 := by omega
      have e1 : bits .and .u8 (q1 : Int) 63 = r1 := hr1 ▸ u8_and63 _ (by omega) (by omega)
      obtain ⟨p1, hp1⟩ : ∃ p : Int, p0 * 64 + r1 = p := ⟨_, rfl⟩
      have o1 : bits .or .i32 (p0 * 64) r1 = p1 := hp1 ▸ or_64 _ _ (by omega) (by omega) (by omega) (by omega)
      have z1 : 0 ≤ p1 ∧ p1 < 512 := by omega
      obtain ⟨r2, hr2⟩ : ∃ p : Int, (q2 : Int) % 64 = p := ⟨_, rfl⟩
      have y2 : 0 ≤ r2 ∧ r2 < 64 := by omega
      have e2 : bits .and .u8 (q2 : Int) 63 = r2 := hr2 ▸ u8_and63 _ (by omega) (by omega)
      obtain ⟨p2, hp2⟩ : ∃ p : Int, p1 * 64 + r2 = p := ⟨_, rfl⟩
      have o2 : bits .or .i32 (p1 * 64) r2 = p2 := hp2 ▸ or_64 _ _ (by omega) (by omega) (by omega) (by omega)
      have z2 : 0 ≤ p2 ∧ p2 < 32768 := by omega
      clear g1 g2 g3 g4
      as_aux_lemma =>
        go_wp2_with fail
        refine wp_loop_rounds 3 ?_
        rw [rounds_succ]
        go_wp2_with fail
        rw [rounds_succ]
        go_wp2_with fail
        rw [rounds_succ]
        go_wp2_with fail
        go_ret2
        exact ⟨rfl, HB.out⟩
    have m3 := cont_of m3'
    obtain ⟨p0, hp0⟩ : ∃ p : Int, (q0 : Int) % 8 = p := ⟨_, rfl⟩
    have b1 : bits .and .u8 (q0 : Int) 7 = p0 := hp0 ▸ u8_and7 _ (by omega) (by omega)
    have z0 : 0 ≤ p0 ∧ p0 < 8 := by omega
    obtain ⟨r1, hr1⟩ : ∃ p : Int, (q1 : Int) % 64 = p := ⟨_, rfl⟩
    have y1 : 0 ≤ r1 ∧ r1 < 64 := by omega
    have e1 : bits .and .u8 (q1 : Int) 63 = r1 := hr1 ▸ u8_and63 _ (by omega) (by omega)
    obtain ⟨p1, hp1⟩ : ∃ p : Int, p0 * 64 + r1 = p := ⟨_, rfl⟩
    have o1 : bits .or .i32 (p0 * 64) r1 = p1 := hp1 ▸ or_64 _ _ (by omega) (by omega) (by omega) (by omega)
    have z1 : 0 ≤ p1 ∧ p1 < 512 := by omega
    obtain ⟨r2, hr2⟩ : ∃ p : Int, (q2 : Int) % 64 = p := ⟨_, rfl⟩
    have y2 : 0 ≤ r2 ∧ r2 < 64 := by omega
    have e2 : bits .and .u8 (q2 : Int) 63 = r2 := hr2 ▸ u8_and63 _ (by omega) (by omega)
    obtain ⟨p2, hp2⟩ : ∃ p : Int, p1 * 64 + r2 = p := ⟨_, rfl⟩
    have o2 : bits .or .i32 (p1 * 64) r2 = p2 := hp2 ▸ or_64 _ _ (by omega) (by omega) (by omega) (by omega)
    have z2 : 0 ≤ p2 ∧ p2 < 32768 := by omega
    obtain ⟨r3, hr3⟩ : ∃ p : Int, (q3 : Int) % 64 = p := ⟨_, rfl⟩
    have y3 : 0 ≤ r3 ∧ r3 < 64 := by omega
    have e3 : bits .and .u8 (q3 : Int) 63 = r3 := hr3 ▸ u8_and63 _ (by omega) (by omega)
    obtain ⟨p3, hp3⟩ : ∃ p : Int, p2 * 64 + r3 = p := ⟨_, rfl⟩
    have o3 : bits .or .i32 (p2 * 64) r3 = p3 := hp3 ▸ or_64 _ _ (by omega) (by omega) (by omega) (by omega)
    have z3 : 0 ≤ p3 ∧ p3 < 2097152 := by omega
    have v0 : p3 < 65536 ∨ (¬ p3 < 65536 ∧ (1114111 : Int) < p3) := by omega
    rcases v0 with v0 | ⟨v0, v1⟩
    · clear g1 g2 g3 g4
      as_aux_lemma =>
        go_wp2_with fail
        refine wp_loop_rounds 4 ?_
        rw [rounds_succ]
        go_wp2_with fail
        rw [rounds_succ]
        go_wp2_with fail
        rw [rounds_succ]
        go_wp2_with fail
        rw [rounds_succ]
        go_wp2_with fail
        go_ret2
        exact ⟨rfl, HB.out⟩
    clear g1 g2 g3 g4
    as_aux_lemma =>
      go_wp2_with fail
      refine wp_loop_rounds 4 ?_
      rw [rounds_succ]
      go_wp2_with fail
      rw [rounds_succ]
      go_wp2_with fail
      rw [rounds_succ]
      go_wp2_with fail
      rw [rounds_succ]
      go_wp2_with fail
      go_ret2
      exact ⟨rfl, HB.out⟩
theorem cmpVs_one (a b : V) : cmpVs [a] [b] = cmpV a b := by
  simp only [cmpVs]
  split
  · rename_i h; rw [h]
  rfl
set_option maxHeartbeats 3200000 in
set_option maxRecDepth 1000000 in
theorem cmp15_any (x y : V) (w : World) (hx : okV x) (hy : okV y) : Calls Tryz.prog 137 #[x.val, y.val] w fun e w' => e = .returned (.int .i64 (cmpV x y)) ∧ Below w.heap.size w w' := by
  have hcon : ∀ (W : World) (g1 g2 : Nat), Rd W 3 (some ⟨g1, 0, none⟩) 1 (rowCells [x]) → Rd W 3 (some ⟨g2, 0, none⟩) 1 (rowCells [y]) → Calls Tryz.prog 31 #[.slice (some ⟨g1, 0, none⟩) 1 1, .slice (some ⟨g2, 0, none⟩) 1 1] W fun e w' => e = .returned (.int .i64 (cmpV x y)) ∧ Below W.heap.size W w' := fun W g1 g2 h1 h2 => by
    rw [← cmpVs_one]
    exact compare_any _ _ 1 1 1 1 [x] [y] W rfl rfl h1 h2 (by omega) (by simpa using hx) (by simpa using hy)
  obtain ⟨G, hG⟩ : ∃ G, cmpV x y = G := ⟨_, rfl⟩
  rw [hG] at hcon ⊢
  obtain ⟨xk, xn, xs⟩ := x
  obtain ⟨yk, yn, ys⟩ := y
  show Calls Tryz.prog 137 #[.agg #[.int .i64 xk, .int .i64 xn, .string xs], .agg #[.int .i64 yk, .int .i64 yn, .string ys]] w _
  have h1 := (Below.refl w.heap.size w).alloc (Nat.le_refl _) (.cells #[.int .i64 xk, .int .i64 xn, .string xs] 28)
  have h2 := h1.alloc h1.size (.cells #[.int .i64 yk, .int .i64 yn, .string ys] 28)
  have h3 := h2.alloc h2.size (.cells #[.int .i64 xk, .int .i64 xn, .string xs] 28)
  have h4 := h3.alloc h3.size (.cells #[.int .i64 yk, .int .i64 yn, .string ys] 28)
  have r1 := (Rd.lit (((w.alloc (.cells #[.int .i64 xk, .int .i64 xn, .string xs] 28)).alloc (.cells #[.int .i64 yk, .int .i64 yn, .string ys] 28))) #[.int .i64 xk, .int .i64 xn, .string xs] 28 3 1 (w.heap.size + 1 + 1) (by simp) rfl).alloc (.cells #[.int .i64 yk, .int .i64 yn, .string ys] 28)
  have r2 := Rd.lit ((((w.alloc (.cells #[.int .i64 xk, .int .i64 xn, .string xs] 28)).alloc (.cells #[.int .i64 yk, .int .i64 yn, .string ys] 28))).alloc (.cells #[.int .i64 xk, .int .i64 xn, .string xs] 28)) #[.int .i64 yk, .int .i64 yn, .string ys] 28 3 1 (w.heap.size + 1 + 1 + 1) (by simp) rfl
  have Hc := hide (hcon _ _ _ r1 r2)
  have H4 := hide h4
  clear hcon h1 h2 h3 h4 r1 r2 hx hy hG
  go_enter Tryz.func137, Tryz.ntmps137
  go_wp2_with fail
  refine Hc.out.mono ?_
  rintro e w2 ⟨rfl, hb⟩
  go_wp2_with fail
  go_ret
  exact ⟨rfl, below_chain H4.out hb⟩
def fnd (key : V) : List (List V) → Nat × Bool
  | [] => (0, false)
  | r :: L => if cmpV (col r 0) key < 0 then ((fnd key L).1 + 1, (fnd key L).2) else (0, decide (cmpV (col r 0) key = 0))
theorem fnd_drop {key : V} {L : List (List V)} {k : Nat} (hk : k < L.length) (hn : ∀ j (h : j < L.length), j < k → cmpV (col L[j] 0) key < 0) : fnd key L = (k + (fnd key (L.drop k)).1, (fnd key (L.drop k)).2) := by
  induction k generalizing L with
  | zero => simp
  | succ k ih =>
    cases L with
    | nil => simp at hk
    | cons r L =>
      have h0 := hn 0 (by simp) (by omega)
      simp only [List.getElem_cons_zero] at h0
      simp at hk
      have := ih hk (fun j h hj => by have := hn (j + 1) (by simpa using h) (by omega); simpa using this)
      rw [fnd, if_pos h0, this, List.drop_succ_cons]
      simp only [Prod.mk.injEq, and_true]
      omega
theorem fnd_end {key : V} {L : List (List V)} (hn : ∀ j (h : j < L.length), cmpV (col L[j] 0) key < 0) : fnd key L = (L.length, false) := by
  induction L with
  | nil => rfl
  | cons r L ih =>
    have h0 := hn 0 (by simp)
    simp only [List.getElem_cons_zero] at h0
    rw [fnd, if_pos h0, ih (fun j h => by have := hn (j + 1) (by simpa using h); simpa using this)]
    rfl
set_option maxHeartbeats 3200000 in
set_option maxRecDepth 1000000 in
theorem find15_any (A : Option Addr) (n c : Nat) (L : List (List V)) (key : V) (w : World) (hL : RowsR w A n L) (hr : ∀ r ∈ L, 0 < r.length ∧ okV (col r 0)) (hk : okV key) (hn : n ≤ 1000) :
    Calls Tryz.prog 133 #[.slice A n c, key.val] w fun e w' => e = .returned (.tuple #[.int .i64 (fnd key L).1, .bool (fnd key L).2]) ∧ Below w.heap.size w w' := by
  obtain ⟨F, hF⟩ : ∃ F, fnd key L = F := ⟨_, rfl⟩
  rw [hF]
  have hcmp := fun x (hx : okV x) W => cmp15_any x key W hx hk
  have HF := hide hF
  have HL := hide hL
  have Hl := hide hL.len
  have Hr := hide hr
  obtain ⟨kk, kn, ks⟩ := key
  have Hcmp := hide hcmp
  have hal := (Below.refl w.heap.size w).alloc (Nat.le_refl _) (.cells #[.int .i64 kk, .int .i64 kn, .string ks] 28)
  have hnb := Blk.new w #[.int .i64 kk, .int .i64 kn, .string ks] 28
  obtain ⟨W1, hW1⟩ : ∃ W1, w.alloc (.cells #[.int .i64 kk, .int .i64 kn, .string ks] 28) = W1 := ⟨_, rfl⟩
  obtain ⟨kb, hkb⟩ : ∃ kb, w.heap.size = kb := ⟨_, rfl⟩
  have Hkb := hide hkb
  clear hF hL hr hk hcmp
  show Calls Tryz.prog 133 #[.slice A n c, .agg #[.int .i64 kk, .int .i64 kn, .string ks]] w _
  go_enter Tryz.func133, Tryz.ntmps133
  go_wp2_with fail
  rw [hW1] at hal hnb
  rw [hkb] at hnb
  have Hal := hide hal
  have Hnb := hide hnb
  clear hal hnb hW1 hkb
  go_loopw [6] (fun iv wr => ∃ k : Nat, k ≤ n ∧ iv = .int .i64 k ∧ Hid (∀ j (h : j < L.length), j < k → cmpV (col L[j] 0) ⟨kk, kn, ks⟩ < 0) ∧ Hid (Below W1.heap.size W1 wr)) (fun iv _ => n - (intOf iv).toNat)
  case atStart => exact ⟨0, Nat.zero_le _, rfl, hide (fun j h hj => by omega), hide (Below.refl _ _)⟩
  case round =>
    obtain ⟨k, hk, rfl, HN, HB⟩ := hrel
    by_cases hlt : k < n
    rotate_left
    · have hke : n = k := by omega
      subst hke
      have hfe := fnd_end (key := ⟨kk, kn, ks⟩) (fun j h => HN.out j h (by rw [Hl.out] at h; exact h))
      rw [HF.out] at hfe
      have Hfe := hide hfe
      have hki : ¬ (n : Int) < (n : Int) := by omega
      clear hfe
      go_wp2_with fail
      go_ret2
      rw [Hfe.out, Hl.out]
      exact ⟨rfl, by have h1 := below_chain Hal.out HB.out; first | exact h1 | (rw [← Hkb.out]; exact h1)⟩
    have hkL : k < L.length := by rw [Hl.out]; exact hlt
    obtain ⟨b, o, Aj, cj, rfl, x0, hrd, _⟩ := ((HL.out.below Hal.out).below HB.out).at_ k hlt hkL
    obtain ⟨hp, hok⟩ := Hr.out _ (List.getElem_mem hkL)
    obtain ⟨b1, o1, rfl, y0, y1, y2⟩ := Row.cells hrd 0 hp
    have hc0 : (L[k])[0] = col L[k] 0 := by rw [col, List.getD_eq_getElem?_getD, List.getElem?_eq_getElem hp]; rfl
    rw [hc0, Nat.zero_mul, Nat.add_zero] at y0 y1 y2
    obtain ⟨v, hv⟩ : ∃ v, col L[k] 0 = v := ⟨_, rfl⟩
    rw [hv] at y0 y1 y2 hok
    obtain ⟨G, hG⟩ : ∃ G, cmpV v ⟨kk, kn, ks⟩ = G := ⟨_, rfl⟩
    have hcon := fun W => Hcmp.out v hok W
    rw [hG] at hcon
    have z0 := (Hnb.out.below HB.out).c 0 (v := .int .i64 kk) rfl
    have z1 := (Hnb.out.below HB.out).c 1 (v := .int .i64 kn) rfl
    have z2 := (Hnb.out.below HB.out).c 2 (v := .string ks) rfl
    obtain ⟨vk, vn, vs⟩ := v
    have hcon2 : ∀ W, Calls Tryz.prog 137 #[.agg #[.int .i64 vk, .int .i64 vn, .string vs], .agg #[.int .i64 kk, .int .i64 kn, .string ks]] W fun e w' => e = .returned (.int .i64 G) ∧ Below W.heap.size W w' := hcon
    obtain ⟨rl, hrl⟩ : ∃ rl, L[k].length = rl := ⟨_, rfl⟩
    rw [hrl] at x0 hp
    dsimp only at y0 y1 y2
    have Hcon := hide hcon2
    have HG := hide hG
    have Hv := hide hv
    have hki : (k : Int) < (n : Int) := by omega
    have hpi : (0 : Int) < (rl : Int) := by omega
    clear hcon hcon2 hG hv hrd hok hc0 hrl
    go_wp2_with fail
    go_region_held3 (fun w' => w'.cell? ⟨b, o + k, none⟩ = some (.slice (some ⟨b1, o1, none⟩) rl cj) ∧ w'.cell? ⟨b1, o1, none⟩ = some (.int .i64 vk) ∧ w'.cell? ⟨b1, o1 + 1, none⟩ = some (.int .i64 vn) ∧ w'.cell? ⟨b1, o1 + 2, none⟩ = some (.string vs) ∧ w'.cell? ⟨kb, 0, none⟩ = some (.int .i64 kk) ∧ w'.cell? ⟨kb, 1, none⟩ = some (.int .i64 kn) ∧ w'.cell? ⟨kb, 2, none⟩ = some (.string ks))
      ((first | (go_keep; done) | exact ⟨x0.below (undrewd hb2), y0.below (undrewd hb2), y1.below (undrewd hb2), y2.below (undrewd hb2), z0.below (undrewd hb2), z1.below (undrewd hb2), z2.below (undrewd hb2)⟩))
      ((go_at_call 137; refine (Hcon.out _).mono ?_; rintro e w2 ⟨rfl, hb2⟩))
    all_goals
      have HB2 := hide (below_then HB.out HB.out.size (undrewd hb2))
      clear hb2 x0 y0 y1 y2 z0 z1 z2 Hcon
      by_cases h0 : 0 ≤ G
      · have hfd := fnd_drop hkL HN.out
        rw [List.drop_eq_getElem_cons hkL, fnd, Hv.out, HG.out, if_neg (by omega), HF.out] at hfd
        have Hfd := hide hfd
        clear hfd
        go_wp2_with fail
        go_ret2
        rw [Hfd.out]
        refine ⟨?_, by have h1 := below_chain Hal.out HB2.out; first | exact h1 | (rw [← Hkb.out]; exact h1)⟩
        by_cases hz : G = 0
        · subst hz; rfl
        simp [hz]
      have HN2 : Hid (∀ j (h : j < L.length), j < k + 1 → cmpV (col L[j] 0) ⟨kk, kn, ks⟩ < 0) := hide fun j h hj => by
        rcases Nat.lt_or_eq_of_le (Nat.le_of_lt_succ hj) with h4 | h4
        · exact HN.out j h h4
        subst h4; rw [Hv.out, HG.out]; omega
      go_wp2_with fail
      exact ⟨⟨k + 1, hlt, by go_num, HN2, HB2⟩, by simp [intOf]; omega⟩
def NF (F : Nat → Prop) (A : Option Addr) (n : Nat) : Prop := n = 0 ∨ ∃ b o, A = some ⟨b, o, none⟩ ∧ ¬ F b
theorem NF.zero (F : Nat → Prop) (A : Option Addr) : NF F A 0 := .inl rfl
theorem NF.congr {F F' : Nat → Prop} {A : Option Addr} {n : Nat} (h : NF F A n) (hF : ∀ b, F' b → F b) : NF F' A n := h.imp id fun ⟨b, o, e, h⟩ => ⟨b, o, e, fun h' => h (hF b h')⟩
def RowsF (F : Nat → Prop) (w : World) (A : Option Addr) (n : Nat) (R : List (List V)) : Prop := ∃ sl : List Value, (Rd w 1 A n sl ∧ NF F A n) ∧ R.length = n ∧ ∀ (j : Nat) (r : List V), R[j]? = some r → ∃ Aj cj, sl[j]? = some (.slice Aj r.length cj) ∧ (Rd w 3 Aj r.length (rowCells r) ∧ NF F Aj r.length) ∧ r.length ≤ 100000000
theorem RowsF.read {F : Nat → Prop} {w : World} {A : Option Addr} {n : Nat} {R : List (List V)} (h : RowsF F w A n R) : RowsR w A n R := by
  obtain ⟨sl, h1, h2, h3⟩ := h
  exact ⟨sl, h1.1, h2, fun j r hj => by obtain ⟨Aj, cj, h4, h5, h6⟩ := h3 j r hj; exact ⟨Aj, cj, h4, h5.1, h6⟩⟩
theorem RowsF.below {F : Nat → Prop} {w w' : World} {A : Option Addr} {n : Nat} {R : List (List V)} (h : RowsF F w A n R) (hb : Below w.heap.size w w') : RowsF F w' A n R := by
  obtain ⟨sl, h1, h2, h3⟩ := h
  exact ⟨sl, ⟨h1.1.below hb, h1.2⟩, h2, fun j r hj => by obtain ⟨Aj, cj, h4, h5, h6⟩ := h3 j r hj; exact ⟨Aj, cj, h4, ⟨h5.1.below hb, h5.2⟩, h6⟩⟩
def TabR (F : Nat → Prop) (w : World) (T : Tb) (cs : List Value) : Prop := ∃ CA cc XA xc RA rc, cs = [.string T.s.name, .slice CA T.s.cols.length cc, .slice XA T.s.ixs.length xc, .slice RA T.rows.length rc] ∧ T.s.cols.length ≤ cc ∧ T.s.ixs.length ≤ xc ∧ T.rows.length ≤ rc ∧
  (Rd w 3 CA T.s.cols.length (T.s.cols.flatMap Col.cells) ∧ NF F CA T.s.cols.length) ∧ (Rd w 2 XA T.s.ixs.length (T.s.ixs.flatMap Ix.cells) ∧ NF F XA T.s.ixs.length) ∧ RowsF F w RA T.rows.length T.rows
def DBR (F : Nat → Prop) (w : World) (A : Option Addr) (n : Nat) (W : List Tb) : Prop := W.length = n ∧ ∃ xs, (Rd w 4 A n xs ∧ NF F A n) ∧ Els (TabR F w) 4 W xs
section
variable {F : Nat → Prop} {w w' : World} {A : Option Addr} {n : Nat} {W : List Tb}
theorem TabR.below {T : Tb} {cs : List Value} (h : TabR F w T cs) (hb : Below w.heap.size w w') : TabR F w' T cs := by
  obtain ⟨CA, cc, XA, xc, RA, rc, e, h1, h2, h3, h4, h5, h6⟩ := h
  exact ⟨CA, cc, XA, xc, RA, rc, e, h1, h2, h3, ⟨h4.1.below hb, h4.2⟩, ⟨h5.1.below hb, h5.2⟩, h6.below hb⟩
theorem DBR.below (h : DBR F w A n W) (hb : Below w.heap.size w w') : DBR F w' A n W := by
  obtain ⟨h0, xs, h1, h2⟩ := h
  exact ⟨h0, xs, ⟨h1.1.below hb, h1.2⟩, h2.mono fun T cs _ ht => ht.below hb⟩
theorem DBR.nil (F : Nat → Prop) (w : World) : DBR F w none 0 [] := ⟨rfl, [], ⟨Rd.nil _ _ _, .inl rfl⟩, Els.nil _ _⟩
theorem DBR.congr {F' : Nat → Prop} (h : DBR F w A n W) (hF : ∀ b, F' b → F b) : DBR F' w A n W := by
  obtain ⟨h0, xs, h1, h2⟩ := h
  refine ⟨h0, xs, ⟨h1.1, h1.2.congr hF⟩, h2.mono fun T cs _ ht => ?_⟩
  obtain ⟨CA, cc, XA, xc, RA, rc, e, h1, h2, h3, h4, h5, sl, h6, h7, h8⟩ := ht
  exact ⟨CA, cc, XA, xc, RA, rc, e, h1, h2, h3, ⟨h4.1, h4.2.congr hF⟩, ⟨h5.1, h5.2.congr hF⟩, sl, ⟨h6.1, h6.2.congr hF⟩, h7, fun j r hj => by obtain ⟨Aj, cj, k1, k2, k3⟩ := h8 j r hj; exact ⟨Aj, cj, k1, ⟨k2.1, k2.2.congr hF⟩, k3⟩⟩
theorem Rd.movF {k : Nat} (_hk : 0 < k) {xs : List Value} (h : Rd w k A n xs ∧ NF F A n) (hs : ∀ b, b < w.heap.size → ¬ F b → w'.heap[b]? = w.heap[b]?) : Rd w' k A n xs ∧ NF F A n := by
  refine ⟨⟨h.1.1, ?_⟩, h.2⟩
  rcases h.2 with h0 | ⟨b, o, rfl, hb⟩
  · exact .inl h0
  rcases h.1.2 with h0 | ⟨b', o', hA, hc⟩
  · exact .inl h0
  injection hA with hA
  injection hA with e1 e2 _
  subst e1 e2
  refine .inr ⟨b, o, rfl, fun j hj => ?_⟩
  have h1 := hc j hj
  rw [List.getElem?_eq_getElem hj] at h1 ⊢
  have hlt := World.block_lt_of_cell? w _ h1
  exact (World.cell?_of_block (w := w) (w' := w') (a := ⟨b, o + j, none⟩) (hs b hlt hb)).trans h1
theorem DBR.movF (h : DBR F w A n W) (hs : ∀ b, b < w.heap.size → ¬ F b → w'.heap[b]? = w.heap[b]?) : DBR F w' A n W := by
  obtain ⟨h0, xs, h1, h2⟩ := h
  refine ⟨h0, xs, Rd.movF (by omega) h1 hs, h2.mono fun T cs _ ht => ?_⟩
  obtain ⟨CA, cc, XA, xc, RA, rc, e, h1, h2, h3, h4, h5, sl, h6, h7, h8⟩ := ht
  exact ⟨CA, cc, XA, xc, RA, rc, e, h1, h2, h3, Rd.movF (by omega) h4 hs, Rd.movF (by omega) h5 hs, sl, Rd.movF (by omega) h6 hs, h7, fun j r hj => by obtain ⟨Aj, cj, k1, k2, k3⟩ := h8 j r hj; exact ⟨Aj, cj, k1, Rd.movF (by omega) k2 hs, k3⟩⟩
theorem DBR.upd {db : Nat} (h : DBR (Foot w db) w A n W) (hu : Upd db w w') : DBR (Foot w' db) w' A n W := by
  have h1 : DBR (fun b => Foot w db b ∨ w.heap.size ≤ b) w A n W := by
    obtain ⟨h0, xs, h1, h2⟩ := h
    have key : ∀ {k : Nat} (_ : 0 < k) {A : Option Addr} {n : Nat} {xs : List Value}, Rd w k A n xs ∧ NF (Foot w db) A n → Rd w k A n xs ∧ NF (fun b => Foot w db b ∨ w.heap.size ≤ b) A n := fun {k} hk {A} {n} {xs} h => ⟨h.1, by
      rcases h.2 with h0 | ⟨b, o, rfl, hb⟩
      · exact .inl h0
      rcases Nat.eq_zero_or_pos n with h0 | hp
      · exact .inl h0
      obtain ⟨b', o', hA, hlt⟩ := h.1.lt hp hk
      injection hA with hA
      injection hA with e1 _ _
      subst e1
      exact .inr ⟨b, o, rfl, fun hf => hf.elim hb (fun h => by omega)⟩⟩
    refine ⟨h0, xs, key (by omega) h1, h2.mono fun T cs _ ht => ?_⟩
    obtain ⟨CA, cc, XA, xc, RA, rc, e, h1, h2, h3, h4, h5, sl, h6, h7, h8⟩ := ht
    exact ⟨CA, cc, XA, xc, RA, rc, e, h1, h2, h3, key (by omega) h4, key (by omega) h5, sl, key (by omega) h6, h7, fun j r hj => by obtain ⟨Aj, cj, k1, k2, k3⟩ := h8 j r hj; exact ⟨Aj, cj, k1, key (by omega) k2, k3⟩⟩
  exact (h1.movF (w' := w') fun b hb hf => hu.same b hb fun h => hf (.inl h)).congr fun b hb => hu.foot b hb
theorem DBR.atF (h : DBR F w A n W) (j : Nat) (hj : j < n) (hW : j < W.length) : ∃ b o CA cc XA xc RA rc, A = some ⟨b, o, none⟩ ∧ C w b (o + j * 4) (.string W[j].s.name) ∧ C w b (o + j * 4 + 1) (.slice CA W[j].s.cols.length cc) ∧ C w b (o + j * 4 + 2) (.slice XA W[j].s.ixs.length xc) ∧ C w b (o + j * 4 + 3) (.slice RA W[j].rows.length rc) ∧
    W[j].s.cols.length ≤ cc ∧ W[j].s.ixs.length ≤ xc ∧ W[j].rows.length ≤ rc ∧ (Rd w 3 CA W[j].s.cols.length (W[j].s.cols.flatMap Col.cells) ∧ NF F CA W[j].s.cols.length) ∧ (Rd w 2 XA W[j].s.ixs.length (W[j].s.ixs.flatMap Ix.cells) ∧ NF F XA W[j].s.ixs.length) ∧ RowsF F w RA W[j].rows.length W[j].rows := by
  obtain ⟨h0, xs, ⟨h1, _⟩, h2⟩ := h
  obtain ⟨cs, hl, ⟨CA, cc, XA, xc, RA, rc, rfl, k1, k2, k3, k4, k5, k6⟩, hx⟩ := h2.at_ j hW
  have hxl : xs.length = n * 4 := h1.1
  have hj4 : j * 4 + 4 ≤ n * 4 := by omega
  obtain ⟨b, o, hA, hc⟩ := h1.some_ (by omega)
  have g : ∀ i, i < 4 → w.cell? ⟨b, o + j * 4 + i, none⟩ = xs[j * 4 + i]? := fun i hi => by rw [Nat.add_assoc]; exact hc (j * 4 + i) (by omega)
  exact ⟨b, o, CA, cc, XA, xc, RA, rc, hA, (g 0 (by omega)).trans (hx 0 (by omega)), (g 1 (by omega)).trans (hx 1 (by omega)), (g 2 (by omega)).trans (hx 2 (by omega)), (g 3 (by omega)).trans (hx 3 (by omega)), k1, k2, k3, k4, k5, k6⟩
theorem DBR.at_ (h : DBR F w A n W) (j : Nat) (hj : j < n) (hW : j < W.length) : ∃ b o CA cc XA xc RA rc, A = some ⟨b, o, none⟩ ∧ C w b (o + j * 4) (.string W[j].s.name) ∧ C w b (o + j * 4 + 1) (.slice CA W[j].s.cols.length cc) ∧ C w b (o + j * 4 + 2) (.slice XA W[j].s.ixs.length xc) ∧ C w b (o + j * 4 + 3) (.slice RA W[j].rows.length rc) ∧
    W[j].s.cols.length ≤ cc ∧ W[j].s.ixs.length ≤ xc ∧ W[j].rows.length ≤ rc ∧ Rd w 3 CA W[j].s.cols.length (W[j].s.cols.flatMap Col.cells) ∧ Rd w 2 XA W[j].s.ixs.length (W[j].s.ixs.flatMap Ix.cells) ∧ RowsR w RA W[j].rows.length W[j].rows := by
  obtain ⟨b, o, CA, cc, XA, xc, RA, rc, h0, h1, h2, h3, h4, k1, k2, k3, k4, k5, k6⟩ := h.atF j hj hW
  exact ⟨b, o, CA, cc, XA, xc, RA, rc, h0, h1, h2, h3, h4, k1, k2, k3, k4.1, k5.1, k6.read⟩
end
theorem findT_go2 {nm : ByteArray} : ∀ {D : List Tb} {k j : Nat} {T : Tb} (_ : ∀ i (h : i < D.length), i < k → D[i].s.name ≠ nm) (h : k < D.length), D[k].s.name = nm → D[k] = T → findT D nm j = some (j + k, T)
  | [], k, j, T, _, h, _, _ => by simp at h
  | U :: D, 0, j, T, _, h, hn, hT => by
    simp at hn hT
    subst hT
    simp [findT, hn]
  | U :: D, k + 1, j, T, hb, h, hn, hT => by
    have h0 := hb 0 (by simp) (by omega)
    simp only [List.getElem_cons_zero] at h0
    rw [findT, if_neg h0]
    simp at h
    have := findT_go2 (j := j + 1) (T := T) (fun i hi hik => by have := hb (i + 1) (by simpa using hi) (by omega); simpa using this) h (by simpa using hn) (by simpa using hT)
    rw [this]
    congr 2
    omega
theorem findT_no2 {nm : ByteArray} : ∀ {D : List Tb} {j : Nat}, (∀ i (h : i < D.length), D[i].s.name ≠ nm) → findT D nm j = none
  | [], _, _ => rfl
  | U :: D, j, h => by
    have h0 := h 0 (by simp)
    simp only [List.getElem_cons_zero] at h0
    rw [findT, if_neg h0]
    exact findT_no2 fun i hi => by have := h (i + 1) (by simpa using hi); simpa using this
def atD (W : List Tb) (nm : ByteArray) : Int := match findT W nm 0 with | none => -1 | some (i, _) => i
theorem atD_found {W : List Tb} {nm : ByteArray} {k : Nat} (hk : k < W.length) (hn : ∀ j (h : j < W.length), j < k → W[j].s.name ≠ nm) (he : W[k].s.name = nm) : atD W nm = k := by
  have h := findT_go2 (D := W) (nm := nm) (k := k) (j := 0) (T := W[k]) hn hk he rfl
  rw [atD, h]
  simp
theorem atD_none {W : List Tb} {nm : ByteArray} (hn : ∀ j (h : j < W.length), W[j].s.name ≠ nm) : atD W nm = -1 := by
  have h := findT_no2 (D := W) (nm := nm) (j := 0) hn
  rw [atD, h]
set_option maxHeartbeats 3200000 in
set_option maxRecDepth 1000000 in
theorem at15_any {F : Nat → Prop} (A : Option Addr) (n c : Nat) (W : List Tb) (nm : ByteArray) (w : World) (hW : DBR F w A n W) (hn : n ≤ 1000) :
    Calls Tryz.prog 130 #[.agg #[.slice A n c], .string nm] w fun e w' => e = .returned (.int .i64 (atD W nm)) ∧ Below w.heap.size w w' := by
  obtain ⟨G, hG⟩ : ∃ G, atD W nm = G := ⟨_, rfl⟩
  rw [hG]
  have HF := hide hG
  have HW := hide hW
  have Hl := hide hW.1
  have hal := (Below.refl w.heap.size w).alloc (Nat.le_refl _) (.cells #[.slice A n c] 73)
  have hnb := Blk.new w #[.slice A n c] 73
  obtain ⟨W1, hW1⟩ : ∃ W1, w.alloc (.cells #[.slice A n c] 73) = W1 := ⟨_, rfl⟩
  obtain ⟨kb, hkb⟩ : ∃ kb, w.heap.size = kb := ⟨_, rfl⟩
  have Hkb := hide hkb
  clear hG hW
  go_enter Tryz.func130, Tryz.ntmps130
  go_wp2_with fail
  rw [hW1] at hal hnb
  rw [hkb] at hnb
  have Hal := hide hal
  have Hnb := hide hnb
  clear hal hnb hW1 hkb
  go_loopw [5] (fun iv wr => ∃ k : Nat, k ≤ n ∧ iv = .int .i64 k ∧ Hid (∀ j (h : j < W.length), j < k → W[j].s.name ≠ nm) ∧ Hid (Below W1.heap.size W1 wr)) (fun iv _ => n - (intOf iv).toNat)
  case atStart => exact ⟨0, Nat.zero_le _, rfl, hide (fun j h hj => by omega), hide (Below.refl _ _)⟩
  case round =>
    obtain ⟨k, hk, rfl, HN, HB⟩ := hrel
    have z0 := (Hnb.out.below HB.out).c 0 (v := .slice A n c) rfl
    by_cases hlt : k < n
    rotate_left
    · have hfe := atD_none (nm := nm) (fun j h => HN.out j h (by rw [Hl.out] at h; omega))
      rw [HF.out] at hfe
      have Hfe := hide hfe
      have hki : ¬ (k : Int) < (n : Int) := by omega
      clear hfe
      go_wp2_with fail
      go_ret
      exact ⟨by rw [Hfe.out]; rfl, by have h1 := below_chain Hal.out HB.out; first | exact h1 | (rw [← Hkb.out]; exact h1)⟩
    have hkW : k < W.length := by rw [Hl.out]; exact hlt
    obtain ⟨b, o, CA, cc, XA, xc, RA, rc, rfl, x0, _⟩ := ((HW.out.below Hal.out).below HB.out).at_ k hlt hkW
    obtain ⟨tn, htn⟩ : ∃ tn, W[k].s.name = tn := ⟨_, rfl⟩
    rw [htn] at x0
    have hki : (k : Int) < (n : Int) := by omega
    by_cases he : tn = nm
    · have hfd := atD_found hkW HN.out (htn.trans he)
      rw [HF.out] at hfd
      have Hfd := hide hfd
      subst he
      clear hfd htn
      go_wp2_with fail
      go_ret
      exact ⟨by rw [Hfd.out]; rfl, by have h1 := below_chain Hal.out HB.out; first | exact h1 | (rw [← Hkb.out]; exact h1)⟩
    have HN2 : Hid (∀ j (h : j < W.length), j < k + 1 → W[j].s.name ≠ nm) := hide fun j h hj => by
      rcases Nat.lt_or_eq_of_le (Nat.le_of_lt_succ hj) with h4 | h4
      · exact HN.out j h h4
      subst h4; rw [htn]; exact he
    have hne : (tn.toList == nm.toList) = false := by
      rw [beq_eq_false_iff_ne]
      intro h
      rw [ByteArray.toList_eq, ByteArray.toList_eq] at h
      exact he (bytes_inj h)
    clear htn he
    go_wp2_with fail
    exact ⟨⟨k + 1, hlt, by go_num, HN2, HB⟩, by simp [intOf]; omega⟩
set_option maxHeartbeats 3200000 in
set_option maxRecDepth 1000000 in
theorem copied_any (A : Option Addr) (n c : Nat) (r : List V) (w : World) (hl : r.length = n) (hr : Rd w 3 A n (rowCells r)) (hn : n ≤ 1000000) :
    Calls Tryz.prog 135 #[.slice A n c] w fun e w' => ∃ A' c', e = .returned (.slice A' n c') ∧ w'.ownsRow w.heap.size 28 3 (.slice A' n c') n (rowCells r) ∧ Below w.heap.size w w' := by
  have HR := hide hr
  clear hr
  go_enter Tryz.func135, Tryz.ntmps135
  go_wp2_with (first
    | (at_builtin; refine wp_app (base := w.heap.size) (n := 0) (xs := []) valT rfl rfl (World.ownsRow_nil _ _ _ _) rfl HR.out rfl (rowCells_one _) (by omega) (by omega) (by omega) ?_; intro A5 c5 w5 hown5 hb5 hg5 hat5)
    | fail)
  rw [Nat.zero_add] at hown5
  go_ret
  exact ⟨A5, c5, rfl, hown5, hb5⟩
theorem str_ne2 {s : ByteArray} (h : s.data.toList ≠ []) : s.toList.isEmpty = false ∧ ¬ s.toList = [] := by
  rw [ByteArray.toList_eq]
  exact ⟨by simpa using h, h⟩
set_option maxHeartbeats 3200000 in
set_option maxRecDepth 1000000 in
theorem right2_any (v : V) (w : World) (hz : v.s.size ≤ 100000000) : Calls Tryz.prog 136 #[v.val] w fun e w' => e = .returned (.int .i64 (rightV v)) ∧ Below w.heap.size w w' := by
  obtain ⟨G, hG⟩ : ∃ G, rightV v = G := ⟨_, rfl⟩
  rw [hG]
  obtain ⟨vk, vn, vs⟩ := v
  have hgood := fun (h : Lib.validD vs.data.toList = true) W => runes_ok vs W h hz
  have hbad := fun (h : Lib.validD vs.data.toList = false) W => runes_bad vs W h hz
  simp only [rightV] at hG
  have hal := (Below.refl w.heap.size w).alloc (Nat.le_refl _) (.cells #[.int .i64 vk, .int .i64 vn, .string vs] 28)
  have Hal := hide hal
  have Hgood := hide hgood
  have Hbad := hide hbad
  clear hal hgood hbad hz
  show Calls Tryz.prog 136 #[.agg #[.int .i64 vk, .int .i64 vn, .string vs]] w _
  by_cases k0 : vk = 0
  · subst k0
    by_cases hn : vn = 0
    rotate_left
    · have hg : G = 1 := by rw [← hG]; simp [hn]
      subst hg
      have hnb : (vn != 0) = true := by simpa using hn
      clear hG hn Hgood Hbad
      go_enter Tryz.func136, Tryz.ntmps136
      go_wp2_with fail
      go_ret
      exact ⟨rfl, Hal.out⟩
    subst hn
    by_cases hs : vs.data.toList = []
    · have : vs = ⟨#[]⟩ := empty_text hs
      subst this
      have hg : G = 0 := by rw [← hG]; decide
      subst hg
      clear hG hs Hgood Hbad
      go_enter Tryz.func136, Tryz.ntmps136
      go_wp2_with fail
      go_ret
      exact ⟨rfl, Hal.out⟩
    have hg : G = 1 := by rw [← hG]; simp [hs]
    subst hg
    have hne := (str_ne2 hs).1
    have hne2 := (str_ne2 hs).2
    clear hG hs Hgood Hbad
    go_enter Tryz.func136, Tryz.ntmps136
    go_wp2_with fail
    go_ret
    exact ⟨rfl, Hal.out⟩
  by_cases k1 : vk = 1
  · subst k1
    by_cases hs : vs.data.toList = []
    · have : vs = ⟨#[]⟩ := empty_text hs
      subst this
      have hg : G = 0 := by rw [← hG]; simp
      subst hg
      clear hG hs Hgood Hbad k0
      go_enter Tryz.func136, Tryz.ntmps136
      go_wp2_with fail
      go_ret
      exact ⟨rfl, Hal.out⟩
    have hg : G = 1 := by rw [← hG]; simp [hs]
    subst hg
    have hne := (str_ne2 hs).1
    have hne2 := (str_ne2 hs).2
    clear hG hs Hgood Hbad k0
    go_enter Tryz.func136, Tryz.ntmps136
    go_wp2_with fail
    go_ret
    exact ⟨rfl, Hal.out⟩
  by_cases k2 : vk = 2
  · subst k2
    by_cases hn : vn = 0
    rotate_left
    · have hg : G = 1 := by rw [← hG]; simp [hn]
      subst hg
      have hnb : (vn != 0) = true := by simpa using hn
      clear hG hn Hgood Hbad k0 k1
      go_enter Tryz.func136, Tryz.ntmps136
      go_wp2_with fail
      go_ret
      exact ⟨rfl, Hal.out⟩
    subst hn
    cases hv : Lib.validD vs.data.toList with
    | true =>
      have hg : G = 0 := by rw [← hG]; simp [hv]
      subst hg
      have Hd := hide (Hgood.out hv)
      clear hG hv Hgood Hbad k0 k1
      go_enter Tryz.func136, Tryz.ntmps136
      go_wp2_with fail
      refine (Hd.out _).mono ?_
      rintro e w2 ⟨A, c, rfl, _, hb⟩
      go_wp2_with fail
      go_ret
      exact ⟨rfl, below_chain Hal.out hb⟩
    | false =>
      have hg : G = 12 := by rw [← hG]; simp [hv]
      subst hg
      have Hd := hide (Hbad.out hv)
      clear hG hv Hgood Hbad k0 k1
      go_enter Tryz.func136, Tryz.ntmps136
      go_wp2_with fail
      refine (Hd.out _).mono ?_
      rintro e w2 ⟨rfl, hb⟩
      go_wp2_with fail
      go_ret
      exact ⟨rfl, below_chain Hal.out hb⟩
  by_cases k3 : vk = 3
  rotate_left
  · have hg : G = 1 := by rw [← hG, if_pos (by omega)]
    subst hg
    have q0 : (vk == 0) = false := by simpa using k0
    have q1 : (vk == 1) = false := by simpa using k1
    have q2 : (vk == 2) = false := by simpa using k2
    have q3 : (vk == 3) = false := by simpa using k3
    clear hG Hgood Hbad k0 k1 k2 k3
    go_enter Tryz.func136, Tryz.ntmps136
    go_wp2_with fail
    go_ret
    exact ⟨rfl, Hal.out⟩
  subst k3
  by_cases hs : vs.data.toList = []
  rotate_left
  · have hg : G = 1 := by rw [← hG]; simp [hs]
    subst hg
    have hne := (str_ne2 hs).1
    have hne2 := (str_ne2 hs).2
    clear hG hs Hgood Hbad k0 k1 k2
    go_enter Tryz.func136, Tryz.ntmps136
    go_wp2_with fail
    go_ret
    exact ⟨rfl, Hal.out⟩
  have : vs = ⟨#[]⟩ := empty_text hs
  subst this
  by_cases hn : vn < 0
  · have hg : G = 1 := by rw [← hG, if_pos (by simp; omega)]
    subst hg
    clear hG hs Hgood Hbad k0 k1 k2
    go_enter Tryz.func136, Tryz.ntmps136
    go_wp2_with fail
    go_ret
    exact ⟨rfl, Hal.out⟩
  by_cases hn1 : 1 < vn
  · have hg : G = 1 := by rw [← hG, if_pos (by simp; omega)]
    subst hg
    clear hG hs Hgood Hbad k0 k1 k2
    go_enter Tryz.func136, Tryz.ntmps136
    go_wp2_with fail
    go_ret
    exact ⟨rfl, Hal.out⟩
  have hg : G = 0 := by rw [← hG, if_neg (by simp; omega)]; simp
  subst hg
  clear hG hs Hgood Hbad k0 k1 k2
  go_enter Tryz.func136, Tryz.ntmps136
  go_wp2_with fail
  go_ret
  exact ⟨rfl, Hal.out⟩
end Go.Proofs.YtekokogmnhlchaaGreatDoor
