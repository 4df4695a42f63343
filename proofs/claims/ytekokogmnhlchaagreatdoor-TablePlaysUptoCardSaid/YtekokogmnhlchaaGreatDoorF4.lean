import Derived.Test.YtekokogmnhlchaaGreatDoorF3
import Derived.Test.YtekokogmnhlchaaGreatDoorE8
import Derived.Test.YtekokogmnhlchaaGreatDoorE2
import Derived.Test.YtekokogmnhlchaaGreatDoorE4
import Derived.Deep.CutBlock
set_option linter.unusedSimpArgs false
set_option linter.unusedVariables false
set_option linter.unusedSectionVars false
namespace Go.Proofs.YtekokogmnhlchaaGreatDoor
open Go.RowKit
def Scan15 (W : List Tb) (nm : ByteArray) (c : Int) (lo hi : V) (limit : Int) (e : Ending) (w' : World) : Prop := match findT W nm 0 with
  | none => e = .returned (.tuple #[.slice none 0 0, .int .i64 60])
  | some (_, U) => if scanE U c lo hi limit = 0 then ∃ S A c', ScanI U.rows c lo hi U.rows.length S ∧ e = .returned (.tuple #[.slice A (min S.length limit.toNat) c', .int .i64 0]) ∧ RowsR w' A (min S.length limit.toNat) (S.take limit.toNat)
    else e = .returned (.tuple #[.slice none 0 0, .int .i64 (scanE U c lo hi limit)])
def isB (U : Tb) (c : Int) (k : Nat) : Bool := decide (c = 0) || (U.s.ixs.take k).any fun x => decide (x.col = c)
theorem isB_zero (U : Tb) (c : Int) : isB U c 0 = decide (c = 0) := by simp [isB]
theorem isB_next {U : Tb} {c : Int} {k : Nat} (hk : k < U.s.ixs.length) : isB U c (k + 1) = (isB U c k || decide (U.s.ixs[k].col = c)) := by
  rw [isB, isB, List.take_succ_eq_append_getElem hk, List.any_append]
  simp [Bool.or_assoc]
theorem isB_end {U : Tb} {c : Int} {k : Nat} (hk : U.s.ixs.length ≤ k) : isB U c k = decide (c = 0 ∨ U.s.ixs.any (fun x => decide (x.col = c)) = true) := by
  rw [isB, List.take_of_length_le hk, Bool.decide_or, Bool.decide_eq_true]
theorem Ent.rows {F : Nat → Prop} {M : Nat} {w0 w : World} {sl : List Value} {R : List (List V)} {A : Option Addr} {n : Nat} (h : Ent F M w0 w sl R) (hb : Below w0.heap.size w0 w) (hr : Rd w 1 A n sl) (hn : R.length = n) : RowsR w A n R :=
  ⟨sl, hr, hn, fun j r hj => by
    obtain ⟨Aq, cq, h1, h2, h3⟩ := h.2 j r hj
    exact ⟨Aq, cq, h1, h2.elim (fun h => h.1.below hb) (fun h => Rd.of_own h), h3⟩⟩
set_option maxHeartbeats 16000000 in
set_option maxRecDepth 1000000 in
theorem scan15_any {F : Nat → Prop} (A : Option Addr) (n cp : Nat) (W : List Tb) (nm : ByteArray) (c : Int) (lo hi : V) (limit : Int) (w : World) (hW : DBR F w A n W) (ho : OkW W) (hs : ∀ U ∈ W, U.rows.Pairwise fun a b => cmpV (col a 0) (col b 0) = -1)
    (hlw : wf64 lo.n) (hls : lo.s.size ≤ 4000000) (hhw : wf64 hi.n) (hhs : hi.s.size ≤ 4000000) :
    Calls Tryz.prog 81 #[.agg #[.slice A n cp], .string nm, .int .i64 c, lo.val, hi.val, .int .i64 limit] w fun e w' => Scan15 W nm c lo hi limit e w' ∧ Below w.heap.size w w' := by
  have hn4 : n ≤ 4 := hW.1 ▸ ho.n4
  obtain ⟨lk, ln, ls⟩ := lo
  obtain ⟨hk, hn, hs'⟩ := hi
  have ha0 := (Below.refl w.heap.size w).alloc (Nat.le_refl _) (.cells #[.slice A n cp] 73)
  have ha1 := ha0.alloc ha0.size (.cells #[.int .i64 lk, .int .i64 ln, .string ls] 28)
  have ha2 := ha1.alloc ha1.size (.cells #[.int .i64 hk, .int .i64 hn, .string hs'] 28)
  have n0 := ((Blk.new w #[.slice A n cp] 73).alloc (.cells #[.int .i64 lk, .int .i64 ln, .string ls] 28)).alloc (.cells #[.int .i64 hk, .int .i64 hn, .string hs'] 28)
  have n1 := (Blk.new (w.alloc (.cells #[.slice A n cp] 73)) #[.int .i64 lk, .int .i64 ln, .string ls] 28).alloc (.cells #[.int .i64 hk, .int .i64 hn, .string hs'] 28)
  have n2 := Blk.new ((w.alloc (.cells #[.slice A n cp] 73)).alloc (.cells #[.int .i64 lk, .int .i64 ln, .string ls] 28)) #[.int .i64 hk, .int .i64 hn, .string hs'] 28
  rw [show (w.alloc (.cells #[.slice A n cp] 73)).heap.size = w.heap.size + 1 by simp] at n1
  rw [show ((w.alloc (.cells #[.slice A n cp] 73)).alloc (.cells #[.int .i64 lk, .int .i64 ln, .string ls] 28)).heap.size = w.heap.size + 1 + 1 by simp] at n2
  obtain ⟨W1, hW1⟩ : ∃ W1, ((w.alloc (.cells #[.slice A n cp] 73)).alloc (.cells #[.int .i64 lk, .int .i64 ln, .string ls] 28)).alloc (.cells #[.int .i64 hk, .int .i64 hn, .string hs'] 28) = W1 := ⟨_, rfl⟩
  rw [hW1] at n0 n1 n2 ha2
  have hat := at15_any A n cp W nm W1 (hW.below ha2) (by omega)
  have HW := hide (hW.below ha2)
  have Ha2 := hide ha2
  have N0 := hide n0
  have N1 := hide n1
  have N2 := hide n2
  have Hl := hide hW.1
  have Hs := hide hs
  clear ha0 ha1 ha2 n0 n1 n2 hW hs
  show Calls Tryz.prog 81 #[.agg #[.slice A n cp], .string nm, .int .i64 c, .agg #[.int .i64 lk, .int .i64 ln, .string ls], .agg #[.int .i64 hk, .int .i64 hn, .string hs'], .int .i64 limit] w _
  have b0 := N0.out.c 0 (v := .slice A n cp) rfl
  cases hf : findT W nm 0 with
  | none =>
    rw [atD_no hf] at hat
    have Hat := hide hat
    have Hf := hide hf
    clear hat hf
    go_enter Tryz.func81, Tryz.ntmps81
    go_wp2_with fail
    refine Hat.out.mono ?_
    rintro e w2 ⟨rfl, hb2⟩
    go_wp2_with fail
    go_ret2
    exact ⟨by rw [Scan15, Hf.out]; rfl, below_chain Ha2.out hb2⟩
  | some p =>
    obtain ⟨i, U⟩ := p
    rw [atD_some hf] at hat
    have Hat := hide hat
    obtain ⟨hU, hUn⟩ := findT_at hf
    have hUm := List.mem_of_getElem? hU
    obtain ⟨hiW, hUe⟩ := List.getElem?_eq_some_iff.1 hU
    have hin : i < n := by rw [← Hl.out]; exact hiW
    have hii : (i : Int) < (n : Int) := by omega
    have hi0 : ¬ (i : Int) < 0 := by omega
    obtain ⟨Q, hQ⟩ : ∃ Q : Ending → World → Prop, ∀ e w', Q e w' → Scan15 W nm c ⟨lk, ln, ls⟩ ⟨hk, hn, hs'⟩ limit e w' := ⟨_, fun _ _ h => h⟩
    obtain ⟨EE, hEE⟩ : ∃ EE, scanE U c ⟨lk, ln, ls⟩ ⟨hk, hn, hs'⟩ limit = EE := ⟨_, rfl⟩
    have hbad : EE ≠ 0 → ∀ w', Scan15 W nm c ⟨lk, ln, ls⟩ ⟨hk, hn, hs'⟩ limit (.returned (.tuple #[.slice none 0 0, .int .i64 EE])) w' := fun h w' => by
      rw [Scan15, hf]
      simp only
      rw [hEE, if_neg h]
    have hgood : EE = 0 → ∀ S A c' w', ScanI U.rows c ⟨lk, ln, ls⟩ ⟨hk, hn, hs'⟩ U.rows.length S → RowsR w' A (min S.length limit.toNat) (S.take limit.toNat) → Scan15 W nm c ⟨lk, ln, ls⟩ ⟨hk, hn, hs'⟩ limit (.returned (.tuple #[.slice A (min S.length limit.toNat) c', .int .i64 0])) w' := fun h S A c' w' h1 h2 => by
      rw [Scan15, hf]
      simp only
      rw [hEE, if_pos h]
      exact ⟨S, A, c', h1, rfl, h2⟩
    clear hQ Q
    obtain ⟨r1, hr1⟩ : ∃ r1, rightV ⟨lk, ln, ls⟩ = r1 := ⟨_, rfl⟩
    obtain ⟨r2, hr2⟩ : ∃ r2, rightV ⟨hk, hn, hs'⟩ = r2 := ⟨_, rfl⟩
    have hright1 := fun W => right2_any ⟨lk, ln, ls⟩ W (by show ls.size ≤ _; have : ls.size ≤ 4000000 := hls; omega)
    have hright2 := fun W => right2_any ⟨hk, hn, hs'⟩ W (by show hs'.size ≤ _; have : hs'.size ≤ 4000000 := hhs; omega)
    rw [hr1] at hright1
    rw [hr2] at hright2
    have Hright1 := hide hright1
    have Hright2 := hide hright2
    have Hr1 := hide hr1
    have Hr2 := hide hr2
    have He : Hid (EE = if isB U c U.s.ixs.length = true then (if r1 ≠ 0 ∨ r2 ≠ 0 then 62 else if limit < 1 ∨ 4 < limit then 1 else 0) else 65) := hide (by
      rw [← hEE, scanE, hr1, hr2, isB_end (Nat.le_refl _)]
      simp only [decide_eq_true_eq])
    have Hbad := hide hbad
    have Hgood := hide hgood
    clear hat hright1 hright2 hr1 hr2 hbad hgood hEE
    go_enter Tryz.func81, Tryz.ntmps81
    go_wp2_with fail
    refine Hat.out.mono ?_
    rintro e w2 ⟨rfl, hb2⟩
    have HB2 := hide hb2
    obtain ⟨b, o, CA, cc, XA, xc, SA, sc, rfl, _, _, x2, x3, _, _, _, _, hXr, hrows⟩ := (HW.out.below hb2).at_ i hin hiW
    rw [hUe] at x2 x3 hXr hrows
    obtain ⟨xn, hxn⟩ : ∃ xn, U.s.ixs.length = xn := ⟨_, rfl⟩
    obtain ⟨rn, hrn⟩ : ∃ rn, U.rows.length = rn := ⟨_, rfl⟩
    rw [hxn] at x2 hXr He
    have hx3 : xn ≤ 3 := hxn ▸ (right_facts (ho.right U hUm)).x3
    have hr64 : rn ≤ 64 := hrn ▸ ho.n64 U hUm
    rw [hrn] at x3 hrows
    have n0 := N0.out.below hb2
    have n1 := N1.out.below hb2
    have n2 := N2.out.below hb2
    have N0' := hide n0
    have N1' := hide n1
    have N2' := hide n2
    have X2 := hide x2
    have X3 := hide x3
    have HXr := hide hXr
    have HRows := hide hrows
    have Hxn := hide hxn
    have Hrn := hide hrn
    clear n0 n1 n2 x2 x3 hXr hrows hxn hrn hb2 Hat b0
    have isz := isB_zero U c
    go_wp2_with fail
    go_loopw [15, 16] (fun tv kv wr => ∃ k : Nat, k ≤ xn ∧ kv = .int .i64 k ∧ Hid (tv = .bool (isB U c k)) ∧ Hid (wr = w2)) (fun _ kv _ => xn - (intOf kv).toNat)
    case atStart => exact ⟨0, Nat.zero_le _, rfl, hide (by rw [isz]; first | rfl | (congr 1; rw [Bool.eq_iff_iff]; simp)), hide rfl⟩
    case round =>
      clear isz
      obtain ⟨k, hkx, rfl, htv, hwv⟩ := hrel
      have htv := htv.out
      have hwv := hwv.out
      subst htv hwv
      have b0 := N0'.out.c 0 (v := .slice (some ⟨b, o, none⟩) n cp) rfl
      have x2 := X2.out
      by_cases hlt : k < xn
      · have hkl : k < U.s.ixs.length := by rw [Hxn.out]; exact hlt
        obtain ⟨xb, xo, rfl, hxc⟩ := Rd.struct Ix.cells_len U.s.ixs Hxn.out HXr.out k hkl
        have hnx := isB_next (c := c) hkl
        obtain ⟨x, hx⟩ : ∃ x, U.s.ixs[k] = x := ⟨_, rfl⟩
        rw [hx] at hxc hnx
        have e0 : C wr xb (xo + k * 2) (.int .i64 x.col) := hxc 0 (by omega)
        obtain ⟨bv, hbv⟩ : ∃ bv, isB U c k = bv := ⟨_, rfl⟩
        rw [hbv] at hnx ⊢
        have Hnx := hide hnx
        have hki : (k : Int) < (xn : Int) := by omega
        clear hxc hnx hx hbv
        cases bv with
        | true =>
          go_wp2_with fail
          exact ⟨⟨k + 1, hlt, by go_num, hide (by rw [Hnx.out]; rfl), hide (by first | rfl | trivial)⟩, by simp [intOf]; omega⟩
        | false =>
          by_cases hcx : x.col = c
          · have hcb : (x.col == c) = true := by simpa using hcx
            have hcd : decide (x.col = c) = true := by simpa using hcx
            rw [hcd] at Hnx
            clear hcx hcd
            go_wp2_with fail
            exact ⟨⟨k + 1, hlt, by go_num, hide (by rw [Hnx.out]; rfl), hide (by first | rfl | trivial)⟩, by simp [intOf]; omega⟩
          have hcb : (x.col == c) = false := by simpa using hcx
          have hcd : decide (x.col = c) = false := by simpa using hcx
          rw [hcd] at Hnx
          clear hcx hcd
          go_wp2_with fail
          exact ⟨⟨k + 1, hlt, by go_num, hide (by rw [Hnx.out]; rfl), hide (by first | rfl | trivial)⟩, by simp [intOf]; omega⟩
      have hke : k = xn := by omega
      subst hke
      have hki : ¬ (k : Int) < (k : Int) := by omega
      obtain ⟨bv, hbv⟩ : ∃ bv, isB U c k = bv := ⟨_, rfl⟩
      rw [hbv] at He ⊢
      have Hbv := hide hbv
      clear hbv
      cases bv with
      | false =>
        obtain rfl : EE = 65 := He.out
        go_wp2_with fail
        go_ret2
        exact ⟨Hbad.out (by decide) _, below_chain Ha2.out HB2.out⟩
      | true =>
        have c0 := N1'.out.c 0 (v := .int .i64 lk) rfl
        have c1 := N1'.out.c 1 (v := .int .i64 ln) rfl
        have c2 := N1'.out.c 2 (v := .string ls) rfl
        go_wp2_with fail
        refine (Hright1.out wr).mono ?_
        rintro e w3 ⟨rfl, hb3⟩
        have HB3 := hide (below_then HB2.out HB2.out.size hb3)
        have Hb3 := hide hb3
        clear hb3 c0 c1 c2 b0 x2
        by_cases h10 : r1 = 0
        rotate_left
        · have t1 : (r1 != 0) = true := by simpa using h10
          obtain rfl : EE = 62 := by rw [He.out]; simp [h10]
          go_wp2_with fail
          go_ret2
          exact ⟨Hbad.out (by decide) _, below_chain Ha2.out HB3.out⟩
        subst h10
        have d0 := (N2'.out.below Hb3.out).c 0 (v := .int .i64 hk) rfl
        have d1 := (N2'.out.below Hb3.out).c 1 (v := .int .i64 hn) rfl
        have d2 := (N2'.out.below Hb3.out).c 2 (v := .string hs') rfl
        go_wp2_with fail
        refine (Hright2.out w3).mono ?_
        rintro e w4 ⟨rfl, hb4⟩
        have HB4 := hide (below_then HB3.out HB3.out.size hb4)
        have Hb4 := hide (below_then Hb3.out Hb3.out.size hb4)
        clear hb4 d0 d1 d2
        by_cases h20 : r2 = 0
        rotate_left
        · have t1 : (r2 != 0) = true := by simpa using h20
          obtain rfl : EE = 62 := by rw [He.out]; simp [h20]
          go_wp2_with fail
          go_ret2
          exact ⟨Hbad.out (by decide) _, below_chain Ha2.out HB4.out⟩
        subst h20
        by_cases hl1 : limit < 1
        · obtain rfl : EE = 1 := by rw [He.out]; simp [hl1]
          go_wp2_with fail
          go_ret2
          exact ⟨Hbad.out (by decide) _, below_chain Ha2.out HB4.out⟩
        by_cases hl4 : 4 < limit
        · obtain rfl : EE = 1 := by rw [He.out]; simp [hl1, hl4]
          go_wp2_with fail
          go_ret2
          exact ⟨Hbad.out (by decide) _, below_chain Ha2.out HB4.out⟩
        obtain rfl : EE = 0 := by rw [He.out]; simp [hl1, hl4]
        obtain ⟨lim, rfl⟩ : ∃ lim : Nat, limit = lim := ⟨limit.toNat, by omega⟩
        go_wp2_with fail
        have hcx : ∃ cn : Nat, c = cn ∧ cn < U.s.cols.length := by
          have hb := Hbv.out
          rw [isB, Bool.or_eq_true] at hb
          rcases hb with hb | hb
          · have h1 := (right_facts (ho.right U hUm)).c1
            exact ⟨0, by simpa using hb, by omega⟩
          obtain ⟨x, hx, hxc⟩ := List.any_eq_true.1 hb
          have h1 := (right_facts (ho.right U hUm)).xs x (List.mem_of_mem_take hx)
          have h2 : x.col = c := by simpa using hxc
          exact ⟨c.toNat, by omega, by omega⟩
        obtain ⟨cn, rfl, hcn⟩ := hcx
        have HRw : Hid (RowsR w4 SA rn U.rows) := hide (HRows.out.below Hb4.out)
        have X34 := hide (X3.out.below Hb4.out)
        have M0 := hide (N0'.out.below Hb4.out)
        have M1 := hide (N1'.out.below Hb4.out)
        have M2 := hide (N2'.out.below Hb4.out)
        have Hrow : Hid (∀ (j : Nat) (r : List V), U.rows[j]? = some r → cn < r.length ∧ ∀ q, okV (col r q)) := hide (fun j r hr => by
          obtain ⟨h1, h2⟩ := ho.rows U hUm r (List.mem_of_getElem? hr)
          exact ⟨by omega, h2⟩)
        have Hsrt := hide (Hs.out U hUm)
        have hlo : okV ⟨lk, ln, ls⟩ := ⟨Hr1.out, hlw, hls⟩
        have hhi : okV ⟨hk, hn, hs'⟩ := ⟨Hr2.out, hhw, hhs⟩
        have Hlo := hide hlo
        have Hhi := hide hhi
        have hl1' : (1 : Int) ≤ (lim : Int) := by omega
        have hl4' : (lim : Int) ≤ 4 := by omega
        clear hlo hhi Hright1 Hright2 Hbad He Hb3 HB3 N0' N1' N2' X3 X2 HRows HXr hl1 hl4 Hr1 Hr2 Hs Hbv
        go_loopw [17, 18] (fun ov kv wr2 => ∃ k2 : Nat, k2 ≤ rn ∧ kv = .int .i64 k2 ∧ Hid (Below w4.heap.size w4 wr2) ∧ ∃ A7 c7 m out sl, ov = .slice A7 m c7 ∧ Hid (wr2.ownsRow w4.heap.size 33 1 (.slice A7 m c7) m sl) ∧ Hid (Ent (fun _ => False) w4.heap.size w4 wr2 sl out) ∧ Hid (out.length = m) ∧ Hid (ScanI U.rows (cn : Int) ⟨lk, ln, ls⟩ ⟨hk, hn, hs'⟩ k2 out)) (fun _ kv _ => rn - (intOf kv).toNat)
        case atStart => exact ⟨0, Nat.zero_le _, rfl, hide (Below.refl _ _), none, 0, 0, [], [], rfl, hide (World.ownsRow_nil _ _ _ _), hide ⟨rfl, fun q r hr => by simp at hr⟩, hide rfl, hide (ScanI.zero _ _ _ _)⟩
        case round =>
          obtain ⟨k2, hk2, rfl, HB, A7, c7, m, out, sl, rfl, Hown, HEnt, Hol, HSc⟩ := hrel
          have b0 := (M0.out.below HB.out).c 0 (v := .slice (some ⟨b, o, none⟩) n cp) rfl
          have x3 := X34.out.below HB.out
          have hcap : m ≤ c7 := by
            obtain ⟨_, _, e, h5, _⟩ := own_form Hown.out
            injection e with _ _ e
            omega
          by_cases hlt2 : k2 < rn
          rotate_left
          · have hke2 : k2 = rn := by omega
            subst hke2
            have hki2 : ¬ (k2 : Int) < (k2 : Int) := by omega
            have hm0 : (min (m : Int) (lim : Int)).toNat = min m lim := by omega
            have hrr : RowsR wr A7 (min m lim) (out.take lim) := by
              have hrd := Rd.of_own Hown.out
              have h1 : Rd wr 1 A7 (min m lim) (sl.take lim) := by
                have hsl := hrd.1
                refine ⟨by rw [List.length_take, hsl]; omega, ?_⟩
                rcases hrd.2 with h | ⟨b', o', hA, hc⟩
                · exact .inl (by omega)
                exact .inr ⟨b', o', hA, fun q hq => by
                  rw [List.length_take] at hq
                  rw [List.getElem?_take, if_pos (by omega)]
                  exact hc q (by omega)⟩
              exact (HEnt.out.take lim).rows HB.out h1 (by rw [List.length_take, Hol.out]; omega)
            have hfin := fun cz => Hgood.out (by first | rfl | trivial) out A7 cz wr (by rw [Hrn.out]; exact HSc.out) (by rw [Hol.out, Int.toNat_natCast]; exact hrr)
            rw [Hol.out, Int.toNat_natCast] at hfin
            have Hfin := hide hfin
            have hq1 : (0 : Int) ≤ min (m : Int) (lim : Int) := by omega
            have hq2 : min (m : Int) (lim : Int) ≤ (c7 : Int) := by omega
            clear hfin hrr
            go_wp2_with fail
            go_ret2
            refine ⟨?_, below_then (below_chain Ha2.out HB4.out) (below_chain Ha2.out HB4.out).size HB.out⟩
            first
              | exact Hfin.out _
              | (rw [hm0]; exact Hfin.out _)
          have hkl2 : k2 < U.rows.length := by rw [Hrn.out]; exact hlt2
          obtain ⟨rb, ro, Aj, cj, hSA, y0, hrd, hrz⟩ := HRw.out.at_ k2 hlt2 hkl2
          subst hSA
          have hgr := List.getElem?_eq_getElem hkl2
          obtain ⟨r, hr⟩ : ∃ r, U.rows[k2] = r := ⟨_, rfl⟩
          rw [hr] at y0 hrd hrz hgr
          obtain ⟨hcr, hrok⟩ := Hrow.out k2 r hgr
          obtain ⟨vb, vo, rfl, v0, v1, v2⟩ := Rd.col hrd cn hcr
          have y0 := y0.below HB.out
          have v0 := v0.below HB.out
          have v1 := v1.below HB.out
          have v2 := v2.below HB.out
          have hok := hrok cn
          obtain ⟨v, hv⟩ : ∃ v, col r cn = v := ⟨_, rfl⟩
          rw [hv] at v0 v1 v2 hok
          obtain ⟨vk, vn, vs⟩ := v
          dsimp only at v0 v1 v2
          obtain ⟨G1, hG1⟩ : ∃ G, cmpV ⟨vk, vn, vs⟩ ⟨lk, ln, ls⟩ = G := ⟨_, rfl⟩
          obtain ⟨G2, hG2⟩ : ∃ G, cmpV ⟨vk, vn, vs⟩ ⟨hk, hn, hs'⟩ = G := ⟨_, rfl⟩
          have hcmp1 : ∀ W', Calls Tryz.prog 137 #[.agg #[.int .i64 vk, .int .i64 vn, .string vs], .agg #[.int .i64 lk, .int .i64 ln, .string ls]] W' fun e w' => e = .returned (.int .i64 G1) ∧ Below W'.heap.size W' w' := fun W' => by
            have h := cmp15_any ⟨vk, vn, vs⟩ ⟨lk, ln, ls⟩ W' hok Hlo.out
            rwa [hG1] at h
          have hcmp2 : ∀ W', Calls Tryz.prog 137 #[.agg #[.int .i64 vk, .int .i64 vn, .string vs], .agg #[.int .i64 hk, .int .i64 hn, .string hs']] W' fun e w' => e = .returned (.int .i64 G2) ∧ Below W'.heap.size W' w' := fun W' => by
            have h := cmp15_any ⟨vk, vn, vs⟩ ⟨hk, hn, hs'⟩ W' hok Hhi.out
            rwa [hG2] at h
          obtain ⟨KB, hKB⟩ : ∃ KB, keepB cn ⟨lk, ln, ls⟩ ⟨hk, hn, hs'⟩ r = KB := ⟨_, rfl⟩
          have hKB2 : KB = !(decide (G1 < 0) || (decide (hk ≠ 0) && decide (0 ≤ G2))) := by rw [← hKB, keepB, hv, hG1, hG2]
          have Hcmp1 := hide hcmp1
          have Hcmp2 := hide hcmp2
          have HKB := hide hKB
          have HKB2 := hide hKB2
          have Hok := hide hok
          have Hv := hide hv
          have Hr := hide hr
          have Hrok := hide hrok
          have Hrd := hide hrd
          obtain ⟨rl, hrl⟩ : ∃ rl, r.length = rl := ⟨_, rfl⟩
          rw [hrl] at y0 hcr
          have Hrl := hide hrl
          have Hrz := hide hrz
          have l0 := (M1.out.below HB.out).c 0 (v := .int .i64 lk) rfl
          have l1 := (M1.out.below HB.out).c 1 (v := .int .i64 ln) rfl
          have l2 := (M1.out.below HB.out).c 2 (v := .string ls) rfl
          have h0 := (M2.out.below HB.out).c 0 (v := .int .i64 hk) rfl
          have h1 := (M2.out.below HB.out).c 1 (v := .int .i64 hn) rfl
          have h2 := (M2.out.below HB.out).c 2 (v := .string hs') rfl
          have hki2 : (k2 : Int) < (rn : Int) := by omega
          have hci : (cn : Int) < (rl : Int) := by omega
          clear hcmp1 hcmp2 hKB hKB2 hok hv hr hrok hrd hrl hrz hG1 hG2 hgr
          go_upto_region 20 with fail
          go_cut [116] (fun t wx => t = .bool (!KB) ∧ Hid (Below wr.heap.size wr wx))
          case first =>
            by_cases hg1 : G1 < 0
            · have hgd : decide (G1 < 0) = true := by simpa using hg1
              have hkb : Hid ((Value.bool true) = Value.bool (!KB)) := hide <| by rw [HKB2.out]; simp [hg1]
              go_wp2_with fail
              refine wp_region_bel (by kernel_rfl) (by kernel_rfl) ?_
              intro X hX f hfb hfs
              have g0 : ∀ x, (f x).cell? ⟨vb, vo + cn * 3, none⟩ = some (.int .i64 vk) := fun x => v0.below (hfb x)
              have g1 : ∀ x, (f x).cell? ⟨vb, vo + cn * 3 + 1, none⟩ = some (.int .i64 vn) := fun x => v1.below (hfb x)
              have g2 : ∀ x, (f x).cell? ⟨vb, vo + cn * 3 + 2, none⟩ = some (.string vs) := fun x => v2.below (hfb x)
              have g3 : ∀ x, (f x).cell? ⟨w.heap.size + 1, 0, none⟩ = some (.int .i64 lk) := fun x => l0.below (hfb x)
              have g4 : ∀ x, (f x).cell? ⟨w.heap.size + 1, 1, none⟩ = some (.int .i64 ln) := fun x => l1.below (hfb x)
              have g5 : ∀ x, (f x).cell? ⟨w.heap.size + 1, 2, none⟩ = some (.string ls) := fun x => l2.below (hfb x)
              have g6 : ∀ x, (f x).cell? ⟨w.heap.size + 1 + 1, 0, none⟩ = some (.int .i64 hk) := fun x => h0.below (hfb x)
              have g7 : ∀ x, (f x).cell? ⟨w.heap.size + 1 + 1, 1, none⟩ = some (.int .i64 hn) := fun x => h1.below (hfb x)
              have g8 : ∀ x, (f x).cell? ⟨w.heap.size + 1 + 1, 2, none⟩ = some (.string hs') := fun x => h2.below (hfb x)
              repeat (go_big_quiet_step ((first
                | (refine (Hcmp1.out _).mono ?_; rintro e w' ⟨rfl, hb⟩; exact ⟨rfl, hfs w' (below_then (hfb _) (hfb _).size hb)⟩)
                | (refine (Hcmp2.out _).mono ?_; rintro e w' ⟨rfl, hb⟩; exact ⟨rfl, hfs w' (below_then (hfb _) (hfb _).size hb)⟩))))
              refine wpQuiet_nil ?_
              rintro w5 ⟨x, rfl⟩
              have HB5 := hide (hfb x)
              clear g0 g1 g2 g3 g4 g5 g6 g7 g8
              go_wp2_with fail
              go_meet
              exact ⟨hkb.out, HB5⟩
            have hgd : decide (G1 < 0) = false := by simpa using hg1
            by_cases hh0 : hk = 0
            · subst hh0
              have hkb : Hid ((Value.bool false) = Value.bool (!KB)) := hide <| by rw [HKB2.out]; simp [hg1]
              go_wp2_with fail
              refine wp_region_bel (by kernel_rfl) (by kernel_rfl) ?_
              intro X hX f hfb hfs
              have g0 : ∀ x, (f x).cell? ⟨vb, vo + cn * 3, none⟩ = some (.int .i64 vk) := fun x => v0.below (hfb x)
              have g1 : ∀ x, (f x).cell? ⟨vb, vo + cn * 3 + 1, none⟩ = some (.int .i64 vn) := fun x => v1.below (hfb x)
              have g2 : ∀ x, (f x).cell? ⟨vb, vo + cn * 3 + 2, none⟩ = some (.string vs) := fun x => v2.below (hfb x)
              have g3 : ∀ x, (f x).cell? ⟨w.heap.size + 1, 0, none⟩ = some (.int .i64 lk) := fun x => l0.below (hfb x)
              have g4 : ∀ x, (f x).cell? ⟨w.heap.size + 1, 1, none⟩ = some (.int .i64 ln) := fun x => l1.below (hfb x)
              have g5 : ∀ x, (f x).cell? ⟨w.heap.size + 1, 2, none⟩ = some (.string ls) := fun x => l2.below (hfb x)
              have g6 : ∀ x, (f x).cell? ⟨w.heap.size + 1 + 1, 0, none⟩ = some (.int .i64 0) := fun x => h0.below (hfb x)
              have g7 : ∀ x, (f x).cell? ⟨w.heap.size + 1 + 1, 1, none⟩ = some (.int .i64 hn) := fun x => h1.below (hfb x)
              have g8 : ∀ x, (f x).cell? ⟨w.heap.size + 1 + 1, 2, none⟩ = some (.string hs') := fun x => h2.below (hfb x)
              repeat (go_big_quiet_step ((first
                | (refine (Hcmp1.out _).mono ?_; rintro e w' ⟨rfl, hb⟩; exact ⟨rfl, hfs w' (below_then (hfb _) (hfb _).size hb)⟩)
                | (refine (Hcmp2.out _).mono ?_; rintro e w' ⟨rfl, hb⟩; exact ⟨rfl, hfs w' (below_then (hfb _) (hfb _).size hb)⟩))))
              refine wpQuiet_nil ?_
              rintro w5 ⟨x, rfl⟩
              have HB5 := hide (hfb x)
              clear g0 g1 g2 g3 g4 g5 g6 g7 g8
              go_wp2_with fail
              go_meet
              exact ⟨hkb.out, HB5⟩
            have hh0b : (hk != 0) = true := by simpa using hh0
            by_cases hg2 : 0 ≤ G2
            · have hgd2 : decide (0 ≤ G2) = true := by simpa using hg2
              have hkb : Hid ((Value.bool true) = Value.bool (!KB)) := hide <| by rw [HKB2.out]; simp [hg2, hh0]
              go_wp2_with fail
              refine wp_region_bel (by kernel_rfl) (by kernel_rfl) ?_
              intro X hX f hfb hfs
              have g0 : ∀ x, (f x).cell? ⟨vb, vo + cn * 3, none⟩ = some (.int .i64 vk) := fun x => v0.below (hfb x)
              have g1 : ∀ x, (f x).cell? ⟨vb, vo + cn * 3 + 1, none⟩ = some (.int .i64 vn) := fun x => v1.below (hfb x)
              have g2 : ∀ x, (f x).cell? ⟨vb, vo + cn * 3 + 2, none⟩ = some (.string vs) := fun x => v2.below (hfb x)
              have g3 : ∀ x, (f x).cell? ⟨w.heap.size + 1, 0, none⟩ = some (.int .i64 lk) := fun x => l0.below (hfb x)
              have g4 : ∀ x, (f x).cell? ⟨w.heap.size + 1, 1, none⟩ = some (.int .i64 ln) := fun x => l1.below (hfb x)
              have g5 : ∀ x, (f x).cell? ⟨w.heap.size + 1, 2, none⟩ = some (.string ls) := fun x => l2.below (hfb x)
              have g6 : ∀ x, (f x).cell? ⟨w.heap.size + 1 + 1, 0, none⟩ = some (.int .i64 hk) := fun x => h0.below (hfb x)
              have g7 : ∀ x, (f x).cell? ⟨w.heap.size + 1 + 1, 1, none⟩ = some (.int .i64 hn) := fun x => h1.below (hfb x)
              have g8 : ∀ x, (f x).cell? ⟨w.heap.size + 1 + 1, 2, none⟩ = some (.string hs') := fun x => h2.below (hfb x)
              repeat (go_big_quiet_step ((first
                | (refine (Hcmp1.out _).mono ?_; rintro e w' ⟨rfl, hb⟩; exact ⟨rfl, hfs w' (below_then (hfb _) (hfb _).size hb)⟩)
                | (refine (Hcmp2.out _).mono ?_; rintro e w' ⟨rfl, hb⟩; exact ⟨rfl, hfs w' (below_then (hfb _) (hfb _).size hb)⟩))))
              refine wpQuiet_nil ?_
              rintro w5 ⟨x, rfl⟩
              have HB5 := hide (hfb x)
              clear g0 g1 g2 g3 g4 g5 g6 g7 g8
              go_wp2_with fail
              go_meet
              exact ⟨hkb.out, HB5⟩
            have hgd2 : decide (0 ≤ G2) = false := by simpa using hg2
            have hkb : Hid ((Value.bool false) = Value.bool (!KB)) := hide <| by rw [HKB2.out]; simp [hg1, hg2]
            go_wp2_with fail
            refine wp_region_bel (by kernel_rfl) (by kernel_rfl) ?_
            intro X hX f hfb hfs
            have g0 : ∀ x, (f x).cell? ⟨vb, vo + cn * 3, none⟩ = some (.int .i64 vk) := fun x => v0.below (hfb x)
            have g1 : ∀ x, (f x).cell? ⟨vb, vo + cn * 3 + 1, none⟩ = some (.int .i64 vn) := fun x => v1.below (hfb x)
            have g2 : ∀ x, (f x).cell? ⟨vb, vo + cn * 3 + 2, none⟩ = some (.string vs) := fun x => v2.below (hfb x)
            have g3 : ∀ x, (f x).cell? ⟨w.heap.size + 1, 0, none⟩ = some (.int .i64 lk) := fun x => l0.below (hfb x)
            have g4 : ∀ x, (f x).cell? ⟨w.heap.size + 1, 1, none⟩ = some (.int .i64 ln) := fun x => l1.below (hfb x)
            have g5 : ∀ x, (f x).cell? ⟨w.heap.size + 1, 2, none⟩ = some (.string ls) := fun x => l2.below (hfb x)
            have g6 : ∀ x, (f x).cell? ⟨w.heap.size + 1 + 1, 0, none⟩ = some (.int .i64 hk) := fun x => h0.below (hfb x)
            have g7 : ∀ x, (f x).cell? ⟨w.heap.size + 1 + 1, 1, none⟩ = some (.int .i64 hn) := fun x => h1.below (hfb x)
            have g8 : ∀ x, (f x).cell? ⟨w.heap.size + 1 + 1, 2, none⟩ = some (.string hs') := fun x => h2.below (hfb x)
            repeat (go_big_quiet_step ((first
              | (refine (Hcmp1.out _).mono ?_; rintro e w' ⟨rfl, hb⟩; exact ⟨rfl, hfs w' (below_then (hfb _) (hfb _).size hb)⟩)
              | (refine (Hcmp2.out _).mono ?_; rintro e w' ⟨rfl, hb⟩; exact ⟨rfl, hfs w' (below_then (hfb _) (hfb _).size hb)⟩))))
            refine wpQuiet_nil ?_
            rintro w5 ⟨x, rfl⟩
            have HB5 := hide (hfb x)
            clear g0 g1 g2 g3 g4 g5 g6 g7 g8
            go_wp2_with fail
            go_meet
            exact ⟨hkb.out, HB5⟩
          case rest =>
            obtain ⟨rfl, HC⟩ := hcut
            obtain ⟨W5, hW5⟩ : ∃ W, W = wc := ⟨_, rfl⟩
            subst hW5
            have HB5 := hide (below_then HB.out HB.out.size HC.out)
            clear l0 l1 l2 h0 h1 h2 b0 x3 y0
            cases KB with
            | false =>
              have hsk := HSc.out.skip hkl2 (by rw [Hr.out]; exact HKB.out)
              have Hsk := hide hsk
              have HOw := hide (own_below Hown.out HC.out)
              have HEn := hide (HEnt.out.below HC.out)
              clear hsk Hown HEnt v0 v1 v2
              go_wp2_with fail
              exact ⟨⟨k2 + 1, hlt2, by go_num, HB5, A7, c7, m, out, sl, rfl, HOw, HEn, Hol, Hsk⟩, by simp [intOf]; omega⟩
            | true =>
              have v0 := v0.below HC.out
              have v1 := v1.below HC.out
              have v2 := v2.below HC.out
              have HOw := hide (own_below Hown.out HC.out)
              have HEn := hide (HEnt.out.below HC.out)
              have Hkeep := hide HKB.out
              clear Hown HEnt HKB HKB2 Hcmp1 Hcmp2
              have hGq : Hid (∀ (q : Nat) (h : q < out.length), cn < out[q].length ∧ okV (col out[q] cn) ∧ out[q] ∈ U.rows) := hide (fun q h => by
                have h1 := (HSc.out.mem out[q]).1 (List.getElem_mem h)
                obtain ⟨z, hz, hzr⟩ := List.getElem_of_mem (List.mem_of_mem_take h1.1)
                have h2 := Hrow.out z out[q] (by rw [List.getElem?_eq_getElem hz, hzr])
                exact ⟨h2.1, h2.2 cn, List.mem_of_mem_take h1.1⟩)
              have hm64 : m ≤ 64 := by
                have h1 := Hol.out
                have h2 : out.Nodup := HSc.out.srt.imp fun {a b} hab e => by rw [e, cmpB_refl] at hab; omega
                have h3 := nodup_len (b := U.rows) h2 fun x hx => List.mem_of_mem_take ((HSc.out.mem x).1 hx).1
                rw [Hrn.out] at h3
                omega
              go_upto_block 5 with fail
              go_cut [20] (fun jv wx => ∃ j : Nat, j ≤ m ∧ jv = .int .i64 j ∧ Hid (IsPos cn r out j) ∧ Hid (Below W5.heap.size W5 wx))
              case first =>
                go_wp2_with fail
                go_loopw [20] (fun jv wx => ∃ j : Nat, j ≤ m ∧ jv = .int .i64 j ∧ Hid (∀ q (h : q < out.length), j ≤ q → 0 < cmpV (col out[q] cn) ⟨vk, vn, vs⟩) ∧ Hid (Below W5.heap.size W5 wx)) (fun jv _ => (intOf jv).toNat)
                case atStart => exact ⟨m, Nat.le_refl _, rfl, hide (fun q h hq => by have := Hol.out; omega), hide (Below.refl _ _)⟩
                case round =>
                  obtain ⟨j, hj, rfl, HJ, HB6⟩ := hrel
                  by_cases hj0 : 0 < j
                  rotate_left
                  · obtain rfl : j = 0 := by omega
                    have hz : ¬ (0 : Int) < 0 := by omega
                    go_wp2_with fail
                    go_quiet (fail)
                    all_goals
                      go_wp2_with fail
                      go_meet
                      exact ⟨0, Nat.zero_le _, by go_num, hide ⟨Nat.zero_le _, fun q h hq => by rw [Hv.out]; exact HJ.out q h hq, fun q h hq => by omega⟩, hide (below_drewN HB6.out _)⟩
                  obtain ⟨j1, rfl⟩ : ∃ j1, j = j1 + 1 := ⟨j - 1, by omega⟩
                  have hjo : j1 < out.length := by have := Hol.out; omega
                  obtain ⟨Ap, cpp, hse, hra⟩ := HEn.out.2 j1 out[j1] (List.getElem?_eq_getElem hjo)
                  obtain ⟨hcq, hokq, _⟩ := hGq.out j1 hjo
                  obtain ⟨g7, hA7, _, _⟩ := own_at HOw.out (by omega)
                  subst hA7
                  have hrq : Rd wr 3 Ap out[j1].length (rowCells out[j1]) := by
                    rcases hra.1 with h | h
                    · exact (h.1.below HB5.out).below HB6.out
                    exact (Rd.of_own h).below HB6.out
                  obtain ⟨qb, qo, rfl, q0, q1, q2⟩ := Rd.col hrq cn hcq
                  have s00 : C W5 g7 j1 (.slice (some ⟨qb, qo, none⟩) out[j1].length cpp) := (HOw.out.cellAt j1 (by have := own_len HOw.out; omega)).trans hse
                  have s0 : C wr g7 j1 (.slice (some ⟨qb, qo, none⟩) out[j1].length cpp) := s00.below HB6.out
                  obtain ⟨u, hu⟩ : ∃ u, col out[j1] cn = u := ⟨_, rfl⟩
                  rw [hu] at q0 q1 q2 hokq
                  obtain ⟨uk, un, us⟩ := u
                  dsimp only at q0 q1 q2
                  obtain ⟨G, hG⟩ : ∃ G, cmpV ⟨uk, un, us⟩ ⟨vk, vn, vs⟩ = G := ⟨_, rfl⟩
                  have hcmp : ∀ W', Calls Tryz.prog 137 #[.agg #[.int .i64 uk, .int .i64 un, .string us], .agg #[.int .i64 vk, .int .i64 vn, .string vs]] W' fun e w' => e = .returned (.int .i64 G) ∧ Below W'.heap.size W' w' := fun W' => by
                    have h := cmp15_any ⟨uk, un, us⟩ ⟨vk, vn, vs⟩ W' hokq Hok.out
                    rwa [hG] at h
                  have Hcmp := hide hcmp
                  have p0 := v0.below HB6.out
                  have p1 := v1.below HB6.out
                  have p2 := v2.below HB6.out
                  obtain ⟨ol, hol⟩ : ∃ ol, out[j1].length = ol := ⟨_, rfl⟩
                  rw [hol] at s0 hcq
                  have hwr : IntKind.i64.wrap (j1 : Int) = j1 := by rw [IntKind.wrap_i64]; omega
                  have hjm : (j1 : Int) < (m : Int) := by omega
                  have hjp : (0 : Int) < ((j1 + 1 : Nat) : Int) := by omega
                  have hjp2 : (0 : Int) < (j1 : Int) + 1 := by omega
                  have hcol : (cn : Int) < (ol : Int) := by omega
                  have Hu := hide hu
                  have HG := hide hG
                  clear hcmp hokq hrq hse hra hol hu hG s00
                  have hgd0 : decide ((0 : Int) < (j1 : Int) + 1) = true := decide_eq_true hjp2
                  by_cases hg : 0 < G
                  · have hgd : decide (0 < G) = true := by simpa using hg
                    go_wp2_with fail
                    refine wp_region_bel (by kernel_rfl) (by kernel_rfl) ?_
                    intro X hX f hfb hfs
                    have g0 : ∀ x, (f x).cell? ⟨vb, vo + cn * 3, none⟩ = some (.int .i64 vk) := fun x => p0.below (hfb x)
                    have g1 : ∀ x, (f x).cell? ⟨vb, vo + cn * 3 + 1, none⟩ = some (.int .i64 vn) := fun x => p1.below (hfb x)
                    have g2 : ∀ x, (f x).cell? ⟨vb, vo + cn * 3 + 2, none⟩ = some (.string vs) := fun x => p2.below (hfb x)
                    have g3 : ∀ x, (f x).cell? ⟨g7, j1, none⟩ = some (.slice (some ⟨qb, qo, none⟩) ol cpp) := fun x => s0.below (hfb x)
                    have g4 : ∀ x, (f x).cell? ⟨qb, qo + cn * 3, none⟩ = some (.int .i64 uk) := fun x => q0.below (hfb x)
                    have g5 : ∀ x, (f x).cell? ⟨qb, qo + cn * 3 + 1, none⟩ = some (.int .i64 un) := fun x => q1.below (hfb x)
                    have g6 : ∀ x, (f x).cell? ⟨qb, qo + cn * 3 + 2, none⟩ = some (.string us) := fun x => q2.below (hfb x)
                    repeat (go_big_quiet_step ((refine (Hcmp.out _).mono ?_; rintro e w' ⟨rfl, hb⟩; exact ⟨rfl, hfs w' (below_then (hfb _) (hfb _).size hb)⟩)))
                    refine wpQuiet_nil ?_
                    rintro w7 ⟨x, rfl⟩
                    have HB7 := hide (below_then HB6.out HB6.out.size (hfb x))
                    clear g0 g1 g2 g3 g4 g5 g6 p0 p1 p2 s0 q0 q1 q2
                    have HJ2 : Hid (∀ q (h : q < out.length), j1 ≤ q → 0 < cmpV (col out[q] cn) ⟨vk, vn, vs⟩) := hide (fun q h hq => by
                      rcases Nat.lt_or_ge j1 q with h4 | h4
                      · exact HJ.out q h h4
                      have : q = j1 := by omega
                      subst this
                      rw [Hu.out, HG.out]; exact hg)
                    go_wp2_with fail
                    exact ⟨⟨j1, by omega, by go_num, HJ2, HB7⟩, by (simp [intOf]; try omega)⟩
                  have hgd : decide (0 < G) = false := by simpa using hg
                  go_wp2_with fail
                  refine wp_region_bel (by kernel_rfl) (by kernel_rfl) ?_
                  intro X hX f hfb hfs
                  have g0 : ∀ x, (f x).cell? ⟨vb, vo + cn * 3, none⟩ = some (.int .i64 vk) := fun x => p0.below (hfb x)
                  have g1 : ∀ x, (f x).cell? ⟨vb, vo + cn * 3 + 1, none⟩ = some (.int .i64 vn) := fun x => p1.below (hfb x)
                  have g2 : ∀ x, (f x).cell? ⟨vb, vo + cn * 3 + 2, none⟩ = some (.string vs) := fun x => p2.below (hfb x)
                  have g3 : ∀ x, (f x).cell? ⟨g7, j1, none⟩ = some (.slice (some ⟨qb, qo, none⟩) ol cpp) := fun x => s0.below (hfb x)
                  have g4 : ∀ x, (f x).cell? ⟨qb, qo + cn * 3, none⟩ = some (.int .i64 uk) := fun x => q0.below (hfb x)
                  have g5 : ∀ x, (f x).cell? ⟨qb, qo + cn * 3 + 1, none⟩ = some (.int .i64 un) := fun x => q1.below (hfb x)
                  have g6 : ∀ x, (f x).cell? ⟨qb, qo + cn * 3 + 2, none⟩ = some (.string us) := fun x => q2.below (hfb x)
                  repeat (go_big_quiet_step ((refine (Hcmp.out _).mono ?_; rintro e w' ⟨rfl, hb⟩; exact ⟨rfl, hfs w' (below_then (hfb _) (hfb _).size hb)⟩)))
                  refine wpQuiet_nil ?_
                  rintro w7 ⟨x, rfl⟩
                  have HB7 := hide (below_then HB6.out HB6.out.size (hfb x))
                  clear g0 g1 g2 g3 g4 g5 g6 p0 p1 p2 s0 q0 q1 q2
                  go_wp2_with fail
                  go_meet
                  exact ⟨j1 + 1, hj, by go_num, hide ⟨by have := Hol.out; omega, fun q h hq => by rw [Hv.out]; exact HJ.out q h hq, fun q h hq => by
                    have : q = j1 := by omega
                    subst this
                    rw [Hu.out, Hv.out, HG.out]; omega⟩, HB7⟩
              case rest =>
                obtain ⟨j, hj, rfl, HP, HC6⟩ := hcut
                obtain ⟨W6, hW6⟩ : ∃ W, W = wc := ⟨_, rfl⟩
                subst hW6
                have HB6 := hide (below_then HB5.out HB5.out.size HC6.out)
                have HOw6 := hide (own_below HOw.out HC6.out)
                have HEn6 := hide (HEn.out.below HC6.out)
                have hstep := HSc.out.step hkl2 (by rw [Hr.out]; exact Hkeep.out) Hsrt.out (fun r hr q => by
                  obtain ⟨z, hz, hzr⟩ := List.getElem_of_mem hr
                  exact (Hrow.out z r (by rw [List.getElem?_eq_getElem hz, hzr])).2 q) (j := j) (by rw [Hr.out]; simpa using HP.out)
                rw [Hr.out] at hstep
                have Hstep := hide hstep
                have hRd := Rd.of_own HOw6.out
                have hsl := hRd.1
                have HOn := hide ((HEn6.out.take j).ones)
                have HOd := hide ((HEn6.out.drop j).ones)
                have HRd := hide hRd
                have hjc : (j : Int) ≤ (c7 : Int) := by omega
                have hjm : (j : Int) ≤ (m : Int) := by omega
                have hmc : (m : Int) ≤ (c7 : Int) := by omega
                have hj0 : (0 : Int) ≤ (j : Int) := by omega
                have hjn : j ≤ c7 := by omega
                have hptr : (A7 = none ∧ m = 0 ∧ c7 = 0 ∧ j = 0) ∨ ∃ gr, A7 = some ⟨gr, 0, none⟩ := by
                  rcases HOw6.out.2 with ⟨h1, h2⟩ | ⟨gr, _, _, h1, _⟩
                  · injection h1 with h1 h3 h4
                    exact .inl ⟨h1, h3, h4, by omega⟩
                  injection h1 with h1
                  exact .inr ⟨gr, h1⟩
                have hra : RowAt (fun _ => False) w4.heap.size w4 W6 (some ⟨vb, vo, none⟩) cj r := ⟨.inl ⟨Hrd.out, .inr ⟨vb, vo, rfl, id⟩⟩, Hrz.out⟩
                have Hra := hide hra
                have HM := hide (show w4.heap.size ≤ W6.heap.size from HB6.out.size)
                clear hstep hRd HC HC6 HOw HEn HSc HP hra v0 v1 v2
                rcases hptr with ⟨rfl, rfl, rfl, rfl⟩ | ⟨gr, rfl⟩
                · have hRt : Rd W6 1 none 0 (sl.take 0) := Rd.nil _ _ _
                  have HRt := hide hRt
                  clear hRt
                  go_wp2_with (first
                    | (at_builtin; refine wp_app (base := W6.heap.size) (n := 0) (xs := []) rowT15 rfl rfl (World.ownsRow_nil _ _ _ _) rfl HRt.out rfl HOn.out (by omega) (by omega) (Nat.le_refl _) ?_; intro A11 c11 w11 hown11 hb11 hg11 hat11; rw [Nat.zero_add, List.nil_append] at hown11; try simp only [Nat.zero_add])
                    | (at_builtin; refine wp_lit (base := W6.heap.size) (n := 0) (xs := sl.take 0) rowT15 rfl rfl hown11 rfl (cs := #[.slice (some ⟨vb, vo, none⟩) rl cj]) (m := 1) rfl rfl rfl (by intro u hu; simp only [List.mem_cons, List.mem_nil_iff, or_false] at hu; subst hu; rfl) (by omega) (by omega) hb11.size ?_; intro A12 c12 w12 hown12 hb12 hg12; rw [Nat.zero_add] at hown12; try simp only [Nat.zero_add]; have hb612 := hb11.trans hb12)
                    | (at_builtin; refine wp_app (base := W6.heap.size) rowT15 rfl rfl hown12 rfl (news := []) (Rd.nil _ _ _) rfl (by simp) (by omega) (by omega) hb612.size ?_; intro A13 c13 w13 hown13 hb13 hg13 hat13; rw [Nat.add_zero, List.append_nil] at hown13; try simp only [Nat.add_zero]; have hb613 := hb612.trans hb13)
                    | fail)
                  have HO3 : Hid (w13.ownsRow w4.heap.size 33 1 (.slice A13 1 c13) 1 ((sl.take 0 ++ [.slice (some ⟨vb, vo, none⟩) rl cj]) ++ sl.drop 0)) := hide (by
                    have h9 := own_mono hown13 HM.out
                    rw [show sl.drop 0 = [] by rw [List.drop_zero]; exact List.eq_nil_of_length_eq_zero (by rw [hsl])]; rw [List.append_nil]; exact h9)
                  have HE3 : Hid (Ent (fun _ => False) w4.heap.size w4 w13 ((sl.take 0 ++ [.slice (some ⟨vb, vo, none⟩) rl cj]) ++ sl.drop 0) (out.take 0 ++ r :: out.drop 0)) := hide (by
                    have h9 := (((HEn6.out.take 0).append (Ent.one Hra.out)).append (HEn6.out.drop 0)).below hb613
                    rw [Hrl.out] at h9
                    rwa [show out.take 0 ++ r :: out.drop 0 = (out.take 0 ++ [r]) ++ out.drop 0 by simp])
                  have HL3 : Hid ((out.take 0 ++ r :: out.drop 0).length = 1) := hide (by have := Hol.out; simp only [List.length_append, List.length_cons, List.length_take, List.length_drop]; omega)
                  have HB3' := hide (below_then HB6.out HB6.out.size hb613)
                  exact ⟨⟨k2 + 1, hlt2, by go_num, HB3', A13, c13, 1, _, _, rfl, HO3, HE3, HL3, Hstep⟩, by simp [intOf]; omega⟩
                have hRt : Rd W6 1 (some ⟨gr, 0, none⟩) j (sl.take j) := by
                  refine ⟨by rw [List.length_take, hsl]; omega, ?_⟩
                  rcases HRd.out.2 with h | ⟨b', o', hA, hc⟩
                  · exact .inl (by omega)
                  exact .inr ⟨b', o', hA, fun q hq => by
                    rw [List.length_take] at hq
                    rw [List.getElem?_take, if_pos (by omega)]
                    exact hc q (by omega)⟩
                have hRt2 : Rd W6 1 (if c7 = j then some ⟨gr, 0, none⟩ else some ⟨gr, j, none⟩) (m - j) (sl.drop j) := by
                  have h1 := HRd.out.from_ (k := j) (by omega)
                  rw [Nat.zero_add] at h1
                  split
                  · exact ⟨h1.1, .inl (by omega)⟩
                  exact h1
                have HRt2 := hide hRt2
                clear hRt2
                have HRt := hide hRt
                clear hRt
                go_wp2_with (first
                  | (at_builtin; refine wp_app (base := W6.heap.size) (n := 0) (xs := []) rowT15 rfl rfl (World.ownsRow_nil _ _ _ _) rfl HRt.out rfl HOn.out (by omega) (by omega) (Nat.le_refl _) ?_; intro A11 c11 w11 hown11 hb11 hg11 hat11; rw [Nat.zero_add, List.nil_append] at hown11; try simp only [Nat.zero_add])
                  | (at_builtin; refine wp_lit (base := W6.heap.size) (n := j) (xs := sl.take j) rowT15 rfl rfl hown11 rfl (cs := #[.slice (some ⟨vb, vo, none⟩) rl cj]) (m := 1) rfl rfl rfl (by intro u hu; simp only [List.mem_cons, List.mem_nil_iff, or_false] at hu; subst hu; rfl) (by omega) (by omega) hb11.size ?_; intro A12 c12 w12 hown12 hb12 hg12;  have hb612 := hb11.trans hb12)
                  | (at_builtin; refine wp_app (base := W6.heap.size) rowT15 rfl rfl hown12 rfl (HRt2.out.below hb612) rfl HOd.out (by omega) (by omega) hb612.size ?_; intro A13 c13 w13 hown13 hb13 hg13 hat13;  have hb613 := hb612.trans hb13)
                  | fail)
                have HO3 : Hid (w13.ownsRow w4.heap.size 33 1 (.slice A13 (j + 1 + (m - j)) c13) (j + 1 + (m - j)) ((sl.take j ++ [.slice (some ⟨vb, vo, none⟩) rl cj]) ++ sl.drop j)) := hide (by
                  have h9 := own_mono hown13 HM.out
                  exact h9)
                have HE3 : Hid (Ent (fun _ => False) w4.heap.size w4 w13 ((sl.take j ++ [.slice (some ⟨vb, vo, none⟩) rl cj]) ++ sl.drop j) (out.take j ++ r :: out.drop j)) := hide (by
                  have h9 := (((HEn6.out.take j).append (Ent.one Hra.out)).append (HEn6.out.drop j)).below hb613
                  rw [Hrl.out] at h9
                  rwa [show out.take j ++ r :: out.drop j = (out.take j ++ [r]) ++ out.drop j by simp])
                have HL3 : Hid ((out.take j ++ r :: out.drop j).length = (j + 1 + (m - j))) := hide (by have := Hol.out; simp only [List.length_append, List.length_cons, List.length_take, List.length_drop]; omega)
                have HB3' := hide (below_then HB6.out HB6.out.size hb613)
                exact ⟨⟨k2 + 1, hlt2, by go_num, HB3', A13, c13, (j + 1 + (m - j)), _, _, rfl, HO3, HE3, HL3, Hstep⟩, by simp [intOf]; omega⟩
section
variable {D W : List Tb}
theorem RefD.in_ (h : RefD D W) {U : Tb} (hU : U ∈ W) : ∃ (i : Nat) (T : Tb), D[i]? = some T ∧ RefT T U := by
  obtain ⟨j, hj, rfl⟩ := List.getElem_of_mem hU
  have hUj : W[j]? = some W[j] := List.getElem?_eq_getElem hj
  obtain ⟨i, T, hT, hn⟩ := (h.nm.mem W[j].s.name).1 (mem_names.2 ⟨j, W[j], hUj, rfl⟩)
  exact ⟨i, T, hT, h.ref i j T W[j] hT hUj hn.symm⟩
theorem RefD.okW (h : RefD D W) (ho : Ok D) : OkW W :=
  ⟨by rw [h.len]; exact ho.n4, fun U hU => by
    obtain ⟨i, T, hT, hR⟩ := h.in_ hU
    rw [hR.s]; exact ho.right i T hT, fun U hU r hr => by
    obtain ⟨i, T, hT, hR⟩ := h.in_ hU
    have hrT := (hR.mem r).1 hr
    exact ⟨by rw [hR.s]; exact fits_len (ho.fit i T hT r hrT).fit, ho.val hT hrT⟩, fun U hU => by
    obtain ⟨i, T, hT, hR⟩ := h.in_ hU
    rw [hR.len ho hT]; exact ho.n64 i T hT⟩
theorem RefD.srt (h : RefD D W) : ∀ U ∈ W, U.rows.Pairwise fun a b => cmpV (col a 0) (col b 0) = -1 := fun U hU => by
  obtain ⟨i, T, hT, hR⟩ := h.in_ hU
  exact hR.srt
end
section
variable {B0 db sb n : Nat} {w0 w w' : World} {D : List Tb} {F : Nat → Prop} {A : Option Addr} {m : Nat} {W : List Tb}
theorem foot_lt (st : St B0 w0 w db sb n D) : ∀ b, Foot w db b → b < w.heap.size := fun b hf => by
  obtain ⟨L, hd, _⟩ := st.ex
  obtain ⟨_, cs, T, fr, hh, _⟩ := hd.d.foot hf
  exact (Array.getElem?_eq_some_iff.1 hh).1
theorem foot_same (h : w'.heap[db]? = w.heap[db]?) (b : Nat) : Foot w' db b ↔ Foot w db b := by
  unfold Foot
  rw [h]
theorem DBR.more (h : DBR F w A m W) : DBR (fun b => F b ∨ w.heap.size ≤ b) w A m W := by
  obtain ⟨h0, xs, h1, h2⟩ := h
  have key : ∀ {k : Nat} (_ : 0 < k) {A : Option Addr} {n : Nat} {xs : List Value}, Rd w k A n xs ∧ NF F A n → Rd w k A n xs ∧ NF (fun b => F b ∨ w.heap.size ≤ b) A n := fun {k} hk {A} {n} {xs} h => ⟨h.1, by
    rcases h.2 with h0 | ⟨b, o, rfl, hb⟩
    · exact .inl h0
    rcases Nat.eq_zero_or_pos n with h0 | hp
    · exact .inl h0
    obtain ⟨b', o', hA, hlt⟩ := h.1.lt hp hk
    injection hA with hA
    injection hA with e1 _ _
    subst e1
    exact .inr ⟨b, o, rfl, fun hf => hf.elim hb (fun h => by omega)⟩⟩
  refine ⟨h0, xs, key (by omega) h1, h2.mono fun T cs _ ht => ?_⟩
  obtain ⟨CA, cc, XA, xc, RA, rc, e, h1, h2, h3, h4, h5, sl, h6, h7, h8⟩ := ht
  exact ⟨CA, cc, XA, xc, RA, rc, e, h1, h2, h3, key (by omega) h4, key (by omega) h5, sl, key (by omega) h6, h7, fun j r hj => by obtain ⟨Aj, cj, k1, k2, k3⟩ := h8 j r hj; exact ⟨Aj, cj, k1, key (by omega) k2, k3⟩⟩
theorem St.setc (st : St B0 w0 w db sb n D) {g : Nat} {cs : Array Value} {t : TypeId} (hg : Blk w g cs t) (hd : ∀ v ∈ cs.toList, Dull v) (h1 : t ≠ 136) (h2 : t ≠ 155) (hB : B0 ≤ g) (h3 : 3 ≤ g) (i : Nat) (v : Value) : St B0 w0 (w.setCell ⟨g, i, none⟩ v) db sb n D := by
  have h := st.off hg hd h1 h2 (Aside.set w ⟨g, i, none⟩ v) h3
  exact ⟨st.hB, st.b.setCell (p := ⟨g, i, none⟩) hB v, h.ex⟩
theorem Upd.setc (h : Upd db w w') {g : Nat} (hg : w.heap.size ≤ g) (hdb : g ≠ db) (i : Nat) (v : Value) : Upd db w (w'.setCell ⟨g, i, none⟩ v) := by
  refine ⟨h.os, h.tape, h.output, by simpa [World.setCell] using h.size, fun k hk hf => ?_, fun k hf => ?_⟩
  · exact (Below.heap_setCell w' ⟨g, i, none⟩ v k (by show k ≠ g; omega)).trans (h.same k hk hf)
  exact h.foot k ((foot_same (Below.heap_setCell w' ⟨g, i, none⟩ v db (fun e => hdb e.symm)) k).1 hf)
end
end Go.Proofs.YtekokogmnhlchaaGreatDoor
