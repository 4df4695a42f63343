import Derived.Test.YtekokogmnhlchaaGreatDoorE9
import Derived.Test.YtekokogmnhlchaaGreatDoorE6
import Derived.Test.YtekokogmnhlchaaGreatDoorE4
import Derived.Test.YtekokogmnhlchaaGreatDoorE8
import Derived.Test.YtekokogmnhlchaaGreatDoorE7
set_option linter.unusedSimpArgs false
set_option linter.unusedVariables false
set_option linter.unusedSectionVars false
namespace Go.Proofs.YtekokogmnhlchaaGreatDoor
open Go.RowKit
def Ent (F : Nat → Prop) (M : Nat) (w0 w : World) (sl : List Value) (rows : List (List V)) : Prop := sl.length = rows.length ∧ ∀ (q : Nat) (r : List V), rows[q]? = some r → ∃ Aq cq, sl[q]? = some (.slice Aq r.length cq) ∧ RowAt F M w0 w Aq cq r
section
variable {F : Nat → Prop} {M : Nat} {w0 w w' : World} {sl sl' : List Value} {rows rows' : List (List V)}
theorem RowAt.below {Aq : Option Addr} {cq : Nat} {r : List V} (h : RowAt F M w0 w Aq cq r) (hb : Below w.heap.size w w') : RowAt F M w0 w' Aq cq r :=
  ⟨h.1.imp id fun h => own_below h hb, h.2⟩
theorem Ent.below (h : Ent F M w0 w sl rows) (hb : Below w.heap.size w w') : Ent F M w0 w' sl rows :=
  ⟨h.1, fun q r hr => by obtain ⟨Aq, cq, h1, h2⟩ := h.2 q r hr; exact ⟨Aq, cq, h1, h2.below hb⟩⟩
theorem RowAt.set {Aq : Option Addr} {cq : Nat} {r : List V} (h : RowAt F M w0 w Aq cq r) {a : Addr} (ha : a.block < M) (u : Value) : RowAt F M w0 (w.setCell a u) Aq cq r :=
  ⟨h.1.imp id fun h => own_set h ha u, h.2⟩
theorem Ent.set (h : Ent F M w0 w sl rows) {a : Addr} (ha : a.block < M) (u : Value) : Ent F M w0 (w.setCell a u) sl rows :=
  ⟨h.1, fun q r hr => by obtain ⟨Aq, cq, h1, h2⟩ := h.2 q r hr; exact ⟨Aq, cq, h1, h2.set ha u⟩⟩
theorem Ent.take (h : Ent F M w0 w sl rows) (k : Nat) : Ent F M w0 w (sl.take k) (rows.take k) :=
  ⟨by rw [List.length_take, List.length_take, h.1], fun q r hr => by
    rw [List.getElem?_take] at hr ⊢
    split at hr
    · rename_i hq; rw [if_pos hq]; exact h.2 q r hr
    cases hr⟩
theorem Ent.drop (h : Ent F M w0 w sl rows) (k : Nat) : Ent F M w0 w (sl.drop k) (rows.drop k) :=
  ⟨by rw [List.length_drop, List.length_drop, h.1], fun q r hr => by
    rw [List.getElem?_drop] at hr ⊢
    exact h.2 _ r hr⟩
theorem Ent.append (h : Ent F M w0 w sl rows) (h' : Ent F M w0 w sl' rows') : Ent F M w0 w (sl ++ sl') (rows ++ rows') :=
  ⟨by rw [List.length_append, List.length_append, h.1, h'.1], fun q r hr => by
    by_cases hq : q < rows.length
    · rw [List.getElem?_append_left hq] at hr
      rw [List.getElem?_append_left (by rw [h.1]; exact hq)]
      exact h.2 q r hr
    rw [List.getElem?_append_right (by omega)] at hr
    rw [List.getElem?_append_right (by rw [h.1]; omega), h.1]
    exact h'.2 _ r hr⟩
theorem Ent.one {Aq : Option Addr} {cq : Nat} {r : List V} (h : RowAt F M w0 w Aq cq r) : Ent F M w0 w [.slice Aq r.length cq] [r] :=
  ⟨rfl, fun q p hp => by
    have : q = 0 := by have := (List.getElem?_eq_some_iff.1 hp).1; simp at this; omega
    subst this
    simp only [List.getElem?_cons_zero, Option.some.injEq] at hp
    subst hp
    exact ⟨Aq, cq, rfl, h⟩⟩
theorem Ent.ones (h : Ent F M w0 w sl rows) : ∀ u ∈ sl, u.oneCell' = true := by
  intro u hu
  obtain ⟨j, hj, rfl⟩ := List.getElem_of_mem hu
  obtain ⟨Aj, cj, e, _⟩ := h.2 j (rows[j]'(by rw [← h.1]; exact hj)) (List.getElem?_eq_getElem _)
  rw [List.getElem?_eq_getElem hj] at e
  rw [Option.some.inj e]
  rfl
end
def Db15 (F : Nat → Prop) (w : World) (W' : List Tb) (E : Int) (e : Ending) (w' : World) : Prop := ∃ A' n' c', e = .returned (.tuple #[.agg #[.slice A' n' c'], .int .i64 E]) ∧ DBR F w' A' n' W' ∧ Below w.heap.size w w'
theorem CopR.at_ {F : Nat → Prop} {M n : Nat} {w0 w : World} {A' : Option Addr} {c' : Nat} {W : List Tb} {xs : List Value} (h : CopR F M w0 w (.slice A' n c') n W xs) {i : Nat} {U : Tb} (hin : i < n) (hi : W[i]? = some U) :
    ∃ g RA rc sl, A' = some ⟨g, 0, none⟩ ∧ M ≤ g ∧ g < w.heap.size ∧ C w g (i * 4 + 3) (.slice RA U.rows.length rc) ∧ U.rows.length ≤ rc ∧ w.ownsRow M 33 1 (.slice RA U.rows.length rc) U.rows.length sl ∧ Ent F M w0 w sl U.rows := by
  obtain ⟨g, rfl, hMg, hg⟩ := own_at h.own (by omega)
  obtain ⟨CA, cc, XA, xc, RA, rc, sl, e0, e1, e2, e3, k1, k2, k3, h1, h2, h3, h4⟩ := (h.tab i U hin hi).ex
  have hl := own_len h.own
  refine ⟨g, RA, rc, sl, rfl, hMg, hg, (h.own.cellAt (i * 4 + 3) (by omega)).trans e3, k3, h3, by have := own_len h3; omega, fun q r hr => ?_⟩
  obtain ⟨Aq, cq, g1, g2, g3⟩ := h4 q r hr
  exact ⟨Aq, cq, g1, .inl g2, g3⟩
theorem Rd.from_ {w : World} {b o n k : Nat} {xs : List Value} (h : Rd w 1 (some ⟨b, o, none⟩) n xs) (hk : k ≤ n) : Rd w 1 (some ⟨b, o + k, none⟩) (n - k) (xs.drop k) := by
  refine ⟨by rw [List.length_drop, h.1]; omega, ?_⟩
  rcases h.2 with h0 | ⟨b', o', hA, hc⟩
  · exact .inl (by omega)
  injection hA with hA
  injection hA with e1 e2 _
  subst e1 e2
  refine .inr ⟨b, o + k, rfl, fun j hj => ?_⟩
  rw [List.length_drop] at hj
  rw [List.getElem?_drop, Nat.add_assoc]
  exact hc (k + j) (by omega)
set_option maxHeartbeats 6400000 in
set_option maxRecDepth 1000000 in
theorem del15_any {F : Nat → Prop} (A : Option Addr) (n c : Nat) (W : List Tb) (nm : ByteArray) (key : V) (w : World) (hW : DBR F w A n W) (hFo : ∀ b, F b → b < w.heap.size) (ho : OkW W) (hk : wf64 key.n) (hz : key.s.size ≤ 4000000) :
    Calls Tryz.prog 79 #[.agg #[.slice A n c], .string nm, key.val] w (Db15 F w (delD15 W nm key) (delE15 W nm key)) := by
  obtain ⟨kk, kn, ks⟩ := key
  have hn4 : n ≤ 4 := hW.1 ▸ ho.n4
  have ha0 := (Below.refl w.heap.size w).alloc (Nat.le_refl _) (.cells #[.slice A n c] 73)
  have ha1 := ha0.alloc ha0.size (.cells #[.int .i64 kk, .int .i64 kn, .string ks] 28)
  have ha2 := ha1.alloc ha1.size (.cells #[.slice none 0 0] 73)
  have n0 := ((Blk.new w #[.slice A n c] 73).alloc (.cells #[.int .i64 kk, .int .i64 kn, .string ks] 28)).alloc (.cells #[.slice none 0 0] 73)
  have n1 := (Blk.new (w.alloc (.cells #[.slice A n c] 73)) #[.int .i64 kk, .int .i64 kn, .string ks] 28).alloc (.cells #[.slice none 0 0] 73)
  have n2 := Blk.new ((w.alloc (.cells #[.slice A n c] 73)).alloc (.cells #[.int .i64 kk, .int .i64 kn, .string ks] 28)) #[.slice none 0 0] 73
  rw [show (w.alloc (.cells #[.slice A n c] 73)).heap.size = w.heap.size + 1 by simp] at n1
  rw [show ((w.alloc (.cells #[.slice A n c] 73)).alloc (.cells #[.int .i64 kk, .int .i64 kn, .string ks] 28)).heap.size = w.heap.size + 1 + 1 by simp] at n2
  obtain ⟨W1, hW1⟩ : ∃ W1, ((w.alloc (.cells #[.slice A n c] 73)).alloc (.cells #[.int .i64 kk, .int .i64 kn, .string ks] 28)).alloc (.cells #[.slice none 0 0] 73) = W1 := ⟨_, rfl⟩
  rw [hW1] at n0 n1 n2 ha2
  have hat := at15_any A n c W nm W1 (hW.below ha2) (by omega)
  have HW := hide (hW.below ha2)
  have HW0 := hide hW
  have HFo := hide hFo
  have Ha2 := hide ha2
  have N0 := hide n0
  have N1 := hide n1
  have N2 := hide n2
  have Hl := hide hW.1
  clear ha0 ha1 ha2 n0 n1 n2 hW hFo
  show Calls Tryz.prog 79 #[.agg #[.slice A n c], .string nm, .agg #[.int .i64 kk, .int .i64 kn, .string ks]] w _
  cases hf : findT W nm 0 with
  | none =>
    rw [atD_no hf] at hat
    have Hat := hide hat
    have e1 : delE15 W nm ⟨kk, kn, ks⟩ = 60 := by rw [delE15, hf]
    have e2 : delD15 W nm ⟨kk, kn, ks⟩ = W := by rw [delD15, e1]; rfl
    rw [e1, e2]
    have b0 := N0.out.c 0 (v := .slice A n c) rfl
    clear hat hf e1 e2
    go_enter Tryz.func79, Tryz.ntmps79
    go_wp2_with fail
    refine Hat.out.mono ?_
    rintro e w2 ⟨rfl, hb2⟩
    have m0 := N0.out.below hb2
    have m2 := N2.out.below hb2
    have b0 := m0.c 0 (v := .slice A n c) rfl
    have d2 := m2.c 0 (v := .slice none 0 0) rfl
    have f2 := m2.fr 0
    have r2 := (m2.set 0 (.slice A n c)).c 0 (v := .slice A n c) rfl
    have HB := hide ((below_chain Ha2.out hb2).setCell (p := ⟨w.heap.size + 1 + 1, 0, none⟩) (by show w.heap.size ≤ w.heap.size + 1 + 1; omega) (.slice A n c))
    clear hb2 m0 m2 Hat
    go_wp2_with fail
    refine bodyPost_ret (v := .tuple #[.agg #[.slice A n c], .int .i64 60]) (by simp [results, Tryz.results79, go_sem, r2]) rfl ?_
    exact ⟨A, n, c, rfl, HW0.out.below HB.out, HB.out⟩
  | some p =>
    obtain ⟨i, U⟩ := p
    rw [atD_some hf] at hat
    have Hat := hide hat
    obtain ⟨hU, hUn⟩ := findT_at hf
    have hUm := List.mem_of_getElem? hU
    obtain ⟨hiW, hUe⟩ := List.getElem?_eq_some_iff.1 hU
    have hin : i < n := by rw [← Hl.out]; exact hiW
    obtain ⟨rv, hrv⟩ : ∃ rv, rightV ⟨kk, kn, ks⟩ = rv := ⟨_, rfl⟩
    have hright := fun W => right2_any ⟨kk, kn, ks⟩ W (by show ks.size ≤ _; have : ks.size ≤ 4000000 := hz; omega)
    rw [hrv] at hright
    have hflt := @fnd_lt ⟨kk, kn, ks⟩ U.rows
    have e1 : delE15 W nm ⟨kk, kn, ks⟩ = if rv = 0 then (if (fnd ⟨kk, kn, ks⟩ U.rows).2 then 0 else 4) else 62 := by rw [delE15, hf]; simp only [hrv]
    have e2 : delE15 W nm ⟨kk, kn, ks⟩ ≠ 0 → delD15 W nm ⟨kk, kn, ks⟩ = W := fun h => by rw [delD15, if_neg h]
    have e3 : delE15 W nm ⟨kk, kn, ks⟩ = 0 → delD15 W nm ⟨kk, kn, ks⟩ = W.set i ⟨U.s, U.rows.take (fnd ⟨kk, kn, ks⟩ U.rows).1 ++ U.rows.drop ((fnd ⟨kk, kn, ks⟩ U.rows).1 + 1)⟩ := fun h => by rw [delD15, if_pos h, setR, hf]; rfl
    obtain ⟨fk, fb, hF⟩ : ∃ fk fb, fnd ⟨kk, kn, ks⟩ U.rows = (fk, fb) := ⟨_, _, rfl⟩
    rw [hF] at hflt e1 e3
    simp only at hflt e1 e3
    obtain ⟨DD, hDD⟩ : ∃ DD, delD15 W nm ⟨kk, kn, ks⟩ = DD := ⟨_, rfl⟩
    obtain ⟨EE, hEE⟩ : ∃ EE, delE15 W nm ⟨kk, kn, ks⟩ = EE := ⟨_, rfl⟩
    rw [hDD, hEE] at e2 e3
    rw [hEE] at e1
    rw [hDD, hEE]
    have HF := hide hF
    have Hflt := hide hflt
    have hii : (i : Int) < (n : Int) := by omega
    have hi0 : ¬ (i : Int) < 0 := by omega
    have Hright := hide hright
    have Hrv := hide hrv
    have He1 := hide e1
    have He2 := hide e2
    have He3 := hide e3
    have b0 := N0.out.c 0 (v := .slice A n c) rfl
    clear hat hright e1 e2 e3 hrv hF hflt hDD hEE
    go_enter Tryz.func79, Tryz.ntmps79
    go_wp2_with fail
    refine Hat.out.mono ?_
    rintro e w2 ⟨rfl, hb2⟩
    have k1 := N1.out.below hb2
    have c0 := k1.c 0 (v := .int .i64 kk) rfl
    have c1 := k1.c 1 (v := .int .i64 kn) rfl
    have c2 := k1.c 2 (v := .string ks) rfl
    have HB2 := hide hb2
    clear Hat hb2 k1 b0
    go_wp2_with fail
    refine (Hright.out w2).mono ?_
    rintro e w3 ⟨rfl, hb3⟩
    have HB3 := hide (below_then HB2.out HB2.out.size hb3)
    clear hb3 c0 c1 c2
    by_cases h0 : rv = 0
    rotate_left
    · have t1 : (rv != 0) = true := by simpa using h0
      obtain rfl : EE = 62 := by rw [He1.out, if_neg h0]
      obtain rfl : DD = W := He2.out (by decide)
      clear He1 He2 He3
      have m0 := N0.out.below HB3.out
      have m2 := N2.out.below HB3.out
      have b0 := m0.c 0 (v := .slice A n c) rfl
      have d2 := m2.c 0 (v := .slice none 0 0) rfl
      have f2 := m2.fr 0
      have r2 := (m2.set 0 (.slice A n c)).c 0 (v := .slice A n c) rfl
      have HBE := hide ((below_chain Ha2.out HB3.out).setCell (p := ⟨w.heap.size + 1 + 1, 0, none⟩) (by show w.heap.size ≤ w.heap.size + 1 + 1; omega) (.slice A n c))
      clear m0 m2
      go_wp2_with fail
      refine bodyPost_ret (v := .tuple #[.agg #[.slice A n c], .int .i64 62]) (by simp [results, Tryz.results79, go_sem, r2]) rfl ?_
      exact ⟨A, n, c, rfl, HW0.out.below HBE.out, HBE.out⟩
    subst h0
    have hkey : okV ⟨kk, kn, ks⟩ := ⟨Hrv.out, hk, hz⟩
    obtain ⟨b, o, CA, cc, XA, xc, RA, rc, rfl, _, _, _, x3, _, _, _, _, _, hrows⟩ := (HW.out.below HB3.out).at_ i hin hiW
    rw [hUe] at x3 hrows
    have b0 := (N0.out.below HB3.out).c 0 (v := .slice (some ⟨b, o, none⟩) n c) rfl
    have k3 := N1.out.below HB3.out
    have c0 := k3.c 0 (v := .int .i64 kk) rfl
    have c1 := k3.c 1 (v := .int .i64 kn) rfl
    have c2 := k3.c 2 (v := .string ks) rfl
    have hfind := fun W' (hb : Below w3.heap.size w3 W') => find15_any RA U.rows.length rc U.rows ⟨kk, kn, ks⟩ W' (hrows.below hb) (ho.pos hUm) hkey (by have := ho.n64 U hUm; omega)
    have hn64 := ho.n64 U hUm
    rw [HF.out] at hfind
    simp only at hfind
    have hflt := Hflt.out
    obtain ⟨rn, hrn⟩ : ∃ rn, U.rows.length = rn := ⟨_, rfl⟩
    rw [hrn] at x3 hrows hfind hflt hn64
    have Hrn := hide hrn
    have Hfind := hide hfind
    have Hflt2 := hide hflt
    clear hfind hrows hflt hrn hkey k3 Hflt HF
    go_wp2_with fail
    refine wp_region_bel (by kernel_rfl) (by kernel_rfl) ?_
    intro X hX f hfb hfs
    have y3 : ∀ x, (f x).cell? ⟨b, o + i * 4 + 3, none⟩ = some (.slice RA rn rc) := fun x => x3.below (hfb x)
    have z0 : ∀ x, (f x).cell? ⟨w.heap.size, 0, none⟩ = some (.slice (some ⟨b, o, none⟩) n c) := fun x => b0.below (hfb x)
    have g0 : ∀ x, (f x).cell? ⟨w.heap.size + 1, 0, none⟩ = some (.int .i64 kk) := fun x => c0.below (hfb x)
    have g1 : ∀ x, (f x).cell? ⟨w.heap.size + 1, 1, none⟩ = some (.int .i64 kn) := fun x => c1.below (hfb x)
    have g2 : ∀ x, (f x).cell? ⟨w.heap.size + 1, 2, none⟩ = some (.string ks) := fun x => c2.below (hfb x)
    repeat (go_big_quiet_step ((refine (Hfind.out _ (hfb _)).mono ?_; rintro e w' ⟨rfl, hb⟩; exact ⟨rfl, hfs w' (below_then (hfb _) (hfb _).size hb)⟩)))
    refine wpQuiet_nil ?_
    rintro w4 ⟨x, rfl⟩
    have HB4 := hide (below_then HB3.out HB3.out.size (hfb x))
    obtain ⟨w5, hw5⟩ : ∃ w5, f x = w5 := ⟨_, rfl⟩
    rw [hw5] at HB4 ⊢
    clear hfs hw5 hfb g0 g1 g2 b0 x3 c0 c1 c2 y3 z0 Hfind Hright
    clear x f hX X
    cases fb with
    | false =>
      obtain rfl : EE = 4 := He1.out
      obtain rfl : DD = W := He2.out (by decide)
      clear He1 He2 He3
      have m0 := N0.out.below HB4.out
      have m2 := N2.out.below HB4.out
      have b0 := m0.c 0 (v := .slice (some ⟨b, o, none⟩) n c) rfl
      have d2 := m2.c 0 (v := .slice none 0 0) rfl
      have f2 := m2.fr 0
      have r2 := (m2.set 0 (.slice (some ⟨b, o, none⟩) n c)).c 0 (v := .slice (some ⟨b, o, none⟩) n c) rfl
      have HBE := hide ((below_chain Ha2.out HB4.out).setCell (p := ⟨w.heap.size + 1 + 1, 0, none⟩) (by show w.heap.size ≤ w.heap.size + 1 + 1; omega) (.slice (some ⟨b, o, none⟩) n c))
      clear m0 m2
      go_wp2_with fail
      refine bodyPost_ret (v := .tuple #[.agg #[.slice (some ⟨b, o, none⟩) n c], .int .i64 4]) (by simp [results, Tryz.results79, go_sem, r2]) rfl ?_
      exact ⟨some ⟨b, o, none⟩, n, c, rfl, HW0.out.below HBE.out, HBE.out⟩
    | true =>
      obtain rfl : EE = 0 := He1.out
      obtain rfl := He3.out rfl
      have hfl := Hflt2.out rfl
      have m0 := N0.out.below HB4.out
      have b0 := m0.c 0 (v := .slice (some ⟨b, o, none⟩) n c) rfl
      have hcop := copy15_any (some ⟨b, o, none⟩) n c W w w5 (below_chain Ha2.out HB4.out) HW0.out (by omega) ho.n64
      have Hcop := hide hcop
      clear hcop m0 He1 He2 He3 Hflt2
      go_wp2_with fail
      refine Hcop.out.mono ?_
      rintro e w6 hco
      obtain ⟨A', c', xs, rfl, hcp, hb6⟩ := hco
      obtain ⟨g, RA', rc', sl, rfl, hMg, hgl, y3, hrc', hown, hent⟩ := hcp.at_ hin hU
      have hwl : W.length = n := Hl.out
      rw [Hrn.out] at y3 hrc' hown
      have hal := (Below.refl w6.heap.size w6).alloc (Nat.le_refl _) (.cells #[.slice (some ⟨g, 0, none⟩) n c'] 73)
      have nb := Blk.new w6 #[.slice (some ⟨g, 0, none⟩) n c'] 73
      have hcp7 := hcp.below hal
      have hent7 := hent.below hal
      have hown7 := own_below hown hal
      have y3 := y3.below hal
      have HB6 := hide (below_then HB4.out HB4.out.size (below_chain hb6 hal))
      have Hb6 := hide (show Below w5.heap.size w5 _ from below_chain hb6 hal)
      have hg7 := hgl
      obtain ⟨w7, hw7⟩ : ∃ w7, w6.alloc (.cells #[.slice (some ⟨g, 0, none⟩) n c'] 73) = w7 := ⟨_, rfl⟩
      have hz7 : w7.heap.size = w6.heap.size + 1 := by rw [← hw7]; simp
      rw [hw7] at nb hcp7 hent7 hown7 y3 HB6 Hb6
      have hgne : w6.heap.size ≠ g := by omega
      have z0 := nb.c 0 (v := .slice (some ⟨g, 0, none⟩) n c') rfl
      have hRd := Rd.of_own hown7
      obtain ⟨gr, hRA, _, _⟩ := own_at hown7 (by omega)
      subst hRA
      have hRt : Rd w7 1 (some ⟨gr, 0, none⟩) fk (sl.take fk) := by
        refine ⟨by rw [List.length_take, hRd.1]; omega, ?_⟩
        rcases hRd.2 with h | ⟨b', o', hA, hc⟩
        · omega
        exact .inr ⟨b', o', hA, fun q hq => by
          rw [List.length_take] at hq
          rw [List.getElem?_take, if_pos (by omega)]
          exact hc q (by omega)⟩
      have HRt := hide hRt
      have HOn := hide ((hent7.take fk).ones)
      have HOd := hide ((hent7.drop (fk + 1)).ones)
      have HRd := hide hRd
      have HCp := hide hcp7
      have HEnt := hide hent7
      have Nb := hide nb
      have Y3 := hide y3
      clear hcp hown hent hal hcp7 hent7 hown7 hRd hRt nb hb6 b0 Hcop hg7 hgl
      have hki : (fk : Int) ≤ (rc' : Int) := by omega
      have hkn : fk ≤ rc' := by omega
      have hk0 : (0 : Int) ≤ (fk : Int) := by omega
      clear y3
      have y3 := Y3.out
      go_wp2_with (first
        | (at_builtin; refine wp_app (base := w7.heap.size) (n := 0) (xs := []) rowT15 rfl rfl (World.ownsRow_nil _ _ _ _) rfl HRt.out rfl HOn.out (by omega) (by omega) (Nat.le_refl _) ?_; intro A8 c8 w8 hown8 hb8 hg8 hat8)
        | fail)
      rw [Nat.zero_add] at hown8 hat8
      simp only [Nat.zero_add, List.nil_append] at hown8 ⊢
      have z0' := hide z0
      have y3' := hide y3
      have z8 := z0.below hb8
      have y8 := y3.below hb8
      have hwr : IntKind.i64.wrap ((fk : Int) + 1) = (fk : Int) + 1 := by rw [IntKind.wrap_i64]; omega
      have hs1 : (fk : Int) + 1 ≤ (rn : Int) := by omega
      have hs2 : (rn : Int) ≤ (rc' : Int) := by omega
      have hs3 : (0 : Int) ≤ (fk : Int) + 1 := by omega
      have hRt2 : Rd w7 1 (if rc' = fk + 1 then some ⟨gr, 0, none⟩ else some ⟨gr, fk + 1, none⟩) (rn - (fk + 1)) (sl.drop (fk + 1)) := by
        have h1 := HRd.out.from_ (k := fk + 1) (by omega)
        rw [Nat.zero_add] at h1
        split
        · exact ⟨h1.1, .inl (by omega)⟩
        exact h1
      have HRt2 := hide (hRt2.below hb8)
      have Hown8 := hide hown8
      have Hb8 := hide hb8
      clear hown8 hb8 hg8 hat8 z0 y3 hRt2
      go_wp2_with fail
      refine wp_region_E 16 (fun w' => w'.cell? ⟨w6.heap.size, 0, none⟩ = some (.slice (some ⟨g, 0, none⟩) n c') ∧ w'.cell? ⟨g, i * 4 + 3, none⟩ = some (.slice (some ⟨gr, 0, none⟩) rn rc')) (by kernel_rfl) ?_
      have hH : _ ∧ _ := ⟨z8, y8⟩
      refine wpAnyE_take (i := 0) (v := ?_) (by kernel_rfl) rfl (by kernel_rfl) (by kernel_rfl) (by kernel_rfl) (fun _ _ _ h => h) (by rfl) hH ?_ ?_
      rotate_left
      · (rintro w' ⟨s0, s1⟩; go_simp; try with_reducible rfl)
      simp only [Act.put, List.setIfInBounds_toArray, List.set_cons_zero, List.set_cons_succ, List.getElem_toArray, List.getElem_cons_zero, List.getElem_cons_succ]
      refine wpAnyE_take (i := 1) (v := ?_) (by kernel_rfl) rfl (by kernel_rfl) (by kernel_rfl) (by kernel_rfl) (fun _ _ _ h => h) (by rfl) hH ?_ ?_
      rotate_left
      · (rintro w' ⟨s0, s1⟩; go_simp; try with_reducible rfl)
      simp only [Act.put, List.setIfInBounds_toArray, List.set_cons_zero, List.set_cons_succ, List.getElem_toArray, List.getElem_cons_zero, List.getElem_cons_succ]
      refine wpAnyE_take (i := 2) (v := ?_) (by kernel_rfl) rfl (by kernel_rfl) (by kernel_rfl) (by kernel_rfl) (fun _ _ _ h => h) (by rfl) hH ?_ ?_
      rotate_left
      · (rintro w' ⟨s0, s1⟩; go_simp; try with_reducible rfl)
      simp only [Act.put, List.setIfInBounds_toArray, List.set_cons_zero, List.set_cons_succ, List.getElem_toArray, List.getElem_cons_zero, List.getElem_cons_succ]
      refine wpAnyE_take (i := 3) (v := ?_) (by kernel_rfl) rfl (by kernel_rfl) (by kernel_rfl) (by kernel_rfl) (fun _ _ _ h => h) (by rfl) hH ?_ ?_
      rotate_left
      · (rintro w' ⟨s0, s1⟩; go_simp; try with_reducible rfl)
      simp only [Act.put, List.setIfInBounds_toArray, List.set_cons_zero, List.set_cons_succ, List.getElem_toArray, List.getElem_cons_zero, List.getElem_cons_succ]
      refine wpAnyE_take (i := 4) (v := ?_) (by kernel_rfl) rfl (by kernel_rfl) (by kernel_rfl) (by kernel_rfl) (fun _ _ _ h => h) (by rfl) hH ?_ ?_
      rotate_left
      · (rintro w' ⟨s0, s1⟩; go_simp; try with_reducible rfl)
      simp only [Act.put, List.setIfInBounds_toArray, List.set_cons_zero, List.set_cons_succ, List.getElem_toArray, List.getElem_cons_zero, List.getElem_cons_succ]
      refine wpAnyE_take (i := 5) (v := ?_) (by kernel_rfl) rfl (by kernel_rfl) (by kernel_rfl) (by kernel_rfl) (fun _ _ _ h => h) (by rfl) hH ?_ ?_
      rotate_left
      · (rintro w' ⟨s0, s1⟩; go_simp; try with_reducible rfl)
      simp only [Act.put, List.setIfInBounds_toArray, List.set_cons_zero, List.set_cons_succ, List.getElem_toArray, List.getElem_cons_zero, List.getElem_cons_succ]
      refine wpAnyE_take (i := 6) (v := ?_) (by kernel_rfl) rfl (by kernel_rfl) (by kernel_rfl) (by kernel_rfl) (fun _ _ _ h => h) (by rfl) hH ?_ ?_
      rotate_left
      · (rintro w' ⟨s0, s1⟩; go_simp; try with_reducible rfl)
      simp only [Act.put, List.setIfInBounds_toArray, List.set_cons_zero, List.set_cons_succ, List.getElem_toArray, List.getElem_cons_zero, List.getElem_cons_succ]
      refine wpAnyE_take (i := 7) (v := ?_) (by kernel_rfl) rfl (by kernel_rfl) (by kernel_rfl) (by kernel_rfl) (fun _ _ _ h => h) (by rfl) hH ?_ ?_
      rotate_left
      · (rintro w' ⟨s0, s1⟩; go_simp; try with_reducible rfl)
      simp only [Act.put, List.setIfInBounds_toArray, List.set_cons_zero, List.set_cons_succ, List.getElem_toArray, List.getElem_cons_zero, List.getElem_cons_succ]
      refine wpAnyE_take (i := 8) (v := ?_) (by kernel_rfl) rfl (by kernel_rfl) (by kernel_rfl) (by kernel_rfl) (fun _ _ _ h => h) (by rfl) hH ?_ ?_
      rotate_left
      · (rintro w' ⟨s0, s1⟩; go_simp; try with_reducible rfl)
      simp only [Act.put, List.setIfInBounds_toArray, List.set_cons_zero, List.set_cons_succ, List.getElem_toArray, List.getElem_cons_zero, List.getElem_cons_succ]
      refine wpAnyE_take (i := 9) (v := ?_) (by kernel_rfl) rfl (by kernel_rfl) (by kernel_rfl) (by kernel_rfl) (fun _ _ _ h => h) (by rfl) hH ?_ ?_
      rotate_left
      · (rintro w' ⟨s0, s1⟩; go_simp; try with_reducible rfl)
      simp only [Act.put, List.setIfInBounds_toArray, List.set_cons_zero, List.set_cons_succ, List.getElem_toArray, List.getElem_cons_zero, List.getElem_cons_succ]
      refine wpAnyE_take (i := 10) (v := ?_) (by kernel_rfl) rfl (by kernel_rfl) (by kernel_rfl) (by kernel_rfl) (fun _ _ _ h => h) (by rfl) hH ?_ ?_
      rotate_left
      · (rintro w' ⟨s0, s1⟩; go_simp; try with_reducible rfl)
      simp only [Act.put, List.setIfInBounds_toArray, List.set_cons_zero, List.set_cons_succ, List.getElem_toArray, List.getElem_cons_zero, List.getElem_cons_succ]
      refine wpAnyE_take (i := 11) (v := ?_) (by kernel_rfl) rfl (by kernel_rfl) (by kernel_rfl) (by kernel_rfl) (fun _ _ _ h => h) (by rfl) hH ?_ ?_
      rotate_left
      · (rintro w' ⟨s0, s1⟩; go_simp; try with_reducible rfl)
      simp only [Act.put, List.setIfInBounds_toArray, List.set_cons_zero, List.set_cons_succ, List.getElem_toArray, List.getElem_cons_zero, List.getElem_cons_succ]
      refine wpAnyE_take (i := 12) (v := ?_) (by kernel_rfl) rfl (by kernel_rfl) (by kernel_rfl) (by kernel_rfl) (fun _ _ _ h => h) (by rfl) hH ?_ ?_
      rotate_left
      · (rintro w' ⟨s0, s1⟩; go_simp; try with_reducible rfl)
      simp only [Act.put, List.setIfInBounds_toArray, List.set_cons_zero, List.set_cons_succ, List.getElem_toArray, List.getElem_cons_zero, List.getElem_cons_succ]
      refine wpAnyE_one (i := 13) (by kernel_rfl) rfl (by rfl) fun K hK => ?_
      refine oper_app (base := w7.heap.size) rowT15 rfl Hown8.out rfl (news := sl.drop (fk + 1)) HRt2.out.drew rfl HOd.out (by omega) (by omega) (by have h1 := Hb8.out.size; exact h1) ?_
      intro A9 c9 w9 hown9 hb9 hg9 hat9
      have hb79 : Below w7.heap.size w7 w9 := Hb8.out.trans ((Below.refl _ _).drew.trans hb9)
      have hH : _ ∧ _ := ⟨z0'.out.below hb79, y3'.out.below hb79⟩
      refine hK _ _ (.inr hH) ?_
      clear hK K
      try simp only [Act.put, List.setIfInBounds_toArray, List.set_cons_zero, List.set_cons_succ, List.getElem_toArray, List.getElem_cons_zero, List.getElem_cons_succ]
      have Hb79 := hide hb79
      have Hown9 := hide hown9
      clear hown9 hg9 hat9 hb9 hb79
      refine wpAnyE_one (i := 14) (by kernel_rfl) rfl (by rfl) fun K hK => ?_
      go_simp
      refine hK _ _ (.inr hH) ?_
      clear hK K
      try simp only [Act.put, List.setIfInBounds_toArray, List.set_cons_zero, List.set_cons_succ, List.getElem_toArray, List.getElem_cons_zero, List.getElem_cons_succ]
      refine wpAnyE_one (i := 15) (by kernel_rfl) rfl (by rfl) fun K hK => ?_
      go_simp
      refine hK _ _ (.inr hH) ?_
      clear hK K
      try simp only [Act.put, List.setIfInBounds_toArray, List.set_cons_zero, List.set_cons_succ, List.getElem_toArray, List.getElem_cons_zero, List.getElem_cons_succ]
      have hlen : (U.rows.take fk ++ U.rows.drop (fk + 1)).length = fk + (rn - (fk + 1)) := by rw [List.length_append, List.length_take, List.length_drop, Hrn.out]; omega
      have hkb : w.heap.size + 1 + 1 < w5.heap.size := Nat.lt_of_lt_of_le N2.out.lt HB4.out.size
      have hkg : w.heap.size + 1 + 1 ≠ g := by omega
      have hcp9 := HCp.out.below Hb79.out
      have q1 := hH.2
      have q2 : w9.frozen? ⟨g, i * 4 + 3, none⟩ = false := hcp9.own.frozenAt _
      have hcpT := hcp9.set (a := ⟨w.heap.size + 1 + 1, 0, none⟩) hkb (.slice (some ⟨g, 0, none⟩) n c')
      have hentT := (((HEnt.out.take fk).append (HEnt.out.drop (fk + 1))).below Hb79.out).set (a := ⟨w.heap.size + 1 + 1, 0, none⟩) hkb (.slice (some ⟨g, 0, none⟩) n c')
      have hMs : w5.heap.size ≤ w7.heap.size := Hb6.out.size
      have hown9 := own_set (own_mono Hown9.out hMs) (a := ⟨w.heap.size + 1 + 1, 0, none⟩) hkb (.slice (some ⟨g, 0, none⟩) n c')
      rw [← hlen] at hown9
      have hb19 : Below W1.heap.size W1 w9 := below_then HB6.out HB6.out.size Hb79.out
      have hbwT : Below w.heap.size w (w9.setCell ⟨w.heap.size + 1 + 1, 0, none⟩ (.slice (some ⟨g, 0, none⟩) n c')) := (below_chain Ha2.out hb19).setCell (p := ⟨w.heap.size + 1 + 1, 0, none⟩) (by show w.heap.size ≤ w.heap.size + 1 + 1; omega) _
      obtain ⟨g', RA9, rc9, hg', _, _, _, q4, q5⟩ := hcpT.dbr_set (show W.length = n from Hl.out) (Nat.le_trans Ha2.out.size HB4.out.size) hbwT (fun b hb => Nat.lt_of_lt_of_le (HFo.out b hb) (Nat.le_trans Ha2.out.size HB4.out.size)) hU hown9 hentT.2
      injection hg' with hg'
      injection hg' with hg' _ _
      subst hg'
      rw [hlen] at q4 q5
      have e9 := setCell_comm w9 ⟨w.heap.size + 1 + 1, 0, none⟩ ⟨g, i * 4 + 3, none⟩ (.slice (some ⟨g, 0, none⟩) n c') (.slice A9 (fk + (rn - (fk + 1))) c9) (by exact hkg)
      rw [e9] at q4 q5
      have m2 := (N2.out.below hb19).set_other (a := ⟨g, i * 4 + 3, none⟩) (by exact hkg) (.slice A9 (fk + (rn - (fk + 1))) c9)
      have d10 := m2.c 0 (v := .slice none 0 0) rfl
      have f10 := m2.fr 0
      have r10 := (m2.set 0 (.slice (some ⟨g, 0, none⟩) n c')).c 0 (v := .slice (some ⟨g, 0, none⟩) n c') rfl
      have z10 := ((Nb.out.below Hb79.out).set_other (a := ⟨g, i * 4 + 3, none⟩) (by exact hgne) (.slice A9 (fk + (rn - (fk + 1))) c9)).c 0 (v := .slice (some ⟨g, 0, none⟩) n c') rfl
      have Q4 := hide q4
      have Q5 := hide q5
      clear q4 q5 hown9 hentT hcpT hcp9 e9 m2 hb19 hbwT
      refine wpAnyE_one (i := 16) (by kernel_rfl) rfl (by rfl) fun K hK => ?_
      go_simp
      refine hK _ _ (.inl rfl) ?_
      clear hK K
      try simp only [Act.put, List.setIfInBounds_toArray, List.set_cons_zero, List.set_cons_succ, List.getElem_toArray, List.getElem_cons_zero, List.getElem_cons_succ]
      refine wpAnyE_done (by kernel_rfl) ?_ _
      go_wp2_with fail
      all_goals
        refine bodyPost_ret (v := .tuple #[.agg #[.slice (some ⟨g, 0, none⟩) n c'], .int .i64 0]) (by simp [results, Tryz.results79, go_sem, r10]) rfl ?_
        exact ⟨some ⟨g, 0, none⟩, n, c', rfl, Q4.out, Q5.out⟩
theorem OkW.tw {W : List Tb} (ho : OkW W) {U : Tb} (hU : U ∈ W) {row : List V} (hf : fitsB U.s row = true) : ∀ x ∈ U.s.ixs, 0 ≤ x.col ∧ x.col < (row.length : Int) ∧ ∀ r ∈ U.rows, x.col < (r.length : Int) := fun x hx => by
  have h1 := (right_facts (ho.right U hU)).xs x hx
  have h2 := fits_len hf
  refine ⟨by omega, by omega, fun r hr => ?_⟩
  have := (ho.rows U hU r hr).1
  omega
theorem fits_first {s : Sch} {row : List V} (hs : rightS s = true) (hf : fitsB s row = true) (hw : ∀ v ∈ row, wf64 v.n) : 0 < row.length ∧ okV (col row 0) :=
  ⟨(RowOf.mk hf hw).pos hs, ((RowOf.mk hf hw).col hs 0).1⟩
set_option maxHeartbeats 6400000 in
set_option maxRecDepth 1000000 in
theorem ins15_any {F : Nat → Prop} (A : Option Addr) (n c : Nat) (W : List Tb) (nm : ByteArray) (RA : Option Addr) (m rcap : Nat) (row : List V) (w : World) (hW : DBR F w A n W) (hFo : ∀ b, F b → b < w.heap.size) (ho : OkW W) (hrow : Rd w 3 RA m (rowCells row)) (hm : row.length = m) (hwf : ∀ v ∈ row, wf64 v.n) (hrs : ∀ v ∈ row, v.s.size ≤ 100000000) (hm4 : m ≤ 1000000) :
    Calls Tryz.prog 77 #[.agg #[.slice A n c], .string nm, .slice RA m rcap] w (Db15 F w (insD15 W nm row) (insE15 W nm row)) := by
  have hn4 : n ≤ 4 := hW.1 ▸ ho.n4
  have ha0 := (Below.refl w.heap.size w).alloc (Nat.le_refl _) (.cells #[.slice A n c] 73)
  have ha2 := ha0.alloc ha0.size (.cells #[.slice none 0 0] 73)
  have n0 := (Blk.new w #[.slice A n c] 73).alloc (.cells #[.slice none 0 0] 73)
  have n2 := Blk.new (w.alloc (.cells #[.slice A n c] 73)) #[.slice none 0 0] 73
  rw [show (w.alloc (.cells #[.slice A n c] 73)).heap.size = w.heap.size + 1 by simp] at n2
  obtain ⟨W1, hW1⟩ : ∃ W1, (w.alloc (.cells #[.slice A n c] 73)).alloc (.cells #[.slice none 0 0] 73) = W1 := ⟨_, rfl⟩
  rw [hW1] at n0 n2 ha2
  have hat := at15_any A n c W nm W1 (hW.below ha2) (by omega)
  have HW := hide (hW.below ha2)
  have HW0 := hide hW
  have HFo := hide hFo
  have Hrow := hide (hrow.below ha2)
  have Ha2 := hide ha2
  have N0 := hide n0
  have N2 := hide n2
  have Hl := hide hW.1
  have Hm := hide hm
  have Hwf := hide hwf
  have Hrs := hide hrs
  clear ha0 ha2 n0 n2 hW hrow hm hwf hrs hFo
  cases hf : findT W nm 0 with
  | none =>
    rw [atD_no hf] at hat
    have Hat := hide hat
    have e1 : insE15 W nm row = 60 := by rw [insE15, hf]
    have e2 : insD15 W nm row = W := by rw [insD15, e1]; rfl
    rw [e1, e2]
    have b0 := N0.out.c 0 (v := .slice A n c) rfl
    clear hat hf e1 e2
    go_enter Tryz.func77, Tryz.ntmps77
    go_wp2_with fail
    refine Hat.out.mono ?_
    rintro e w2 ⟨rfl, hb2⟩
    have HB2 := hide hb2
    clear b0 hb2 Hat
    have m0 := N0.out.below HB2.out
    have m2 := N2.out.below HB2.out
    have b0 := m0.c 0 (v := .slice A n c) rfl
    have d2 := m2.c 0 (v := .slice none 0 0) rfl
    have f2 := m2.fr 0
    have r2 := (m2.set 0 (.slice A n c)).c 0 (v := .slice A n c) rfl
    have HBE := hide ((below_chain Ha2.out HB2.out).setCell (p := ⟨w.heap.size + 1, 0, none⟩) (by show w.heap.size ≤ w.heap.size + 1; omega) (.slice A n c))
    clear m0 m2
    go_wp2_with fail
    refine bodyPost_ret (v := .tuple #[.agg #[.slice A n c], .int .i64 60]) (by simp [results, Tryz.results77, go_sem, r2]) rfl ?_
    exact ⟨A, n, c, rfl, HW0.out.below HBE.out, HBE.out⟩
  | some p =>
    obtain ⟨i, U⟩ := p
    rw [atD_some hf] at hat
    have Hat := hide hat
    obtain ⟨hU, hUn⟩ := findT_at hf
    have hUm := List.mem_of_getElem? hU
    obtain ⟨hiW, hUe⟩ := List.getElem?_eq_some_iff.1 hU
    have hin : i < n := by rw [← Hl.out]; exact hiW
    have hflt := @fnd_lt (col row 0) U.rows
    have hfle := @fnd_le (col row 0) U.rows
    have hright := ho.right U hUm
    obtain ⟨fk, fb, hF⟩ : ∃ fk fb, fnd (col row 0) U.rows = (fk, fb) := ⟨_, _, rfl⟩
    have e1 : insE15 W nm row = if fitsB U.s row then (if fb then 63 else if 64 ≤ U.rows.length then 2 else if twB U row (-1) then 64 else 0) else 62 := by rw [insE15, hf]; simp only [hF]
    have e2 : insE15 W nm row ≠ 0 → insD15 W nm row = W := fun h => by rw [insD15, if_neg h]
    have e3 : insE15 W nm row = 0 → insD15 W nm row = W.set i ⟨U.s, U.rows.take fk ++ row :: U.rows.drop fk⟩ := fun h => by rw [insD15, if_pos h, setR, hf]; simp only [insR15, hF]
    rw [hF] at hflt hfle
    simp only at hflt hfle
    obtain ⟨DD, hDD⟩ : ∃ DD, insD15 W nm row = DD := ⟨_, rfl⟩
    obtain ⟨EE, hEE⟩ : ∃ EE, insE15 W nm row = EE := ⟨_, rfl⟩
    rw [hDD, hEE] at e2 e3
    rw [hEE] at e1
    rw [hDD, hEE]
    have HF := hide hF
    have Hflt := hide hflt
    have Hfle := hide hfle
    have hii : (i : Int) < (n : Int) := by omega
    have hi0 : ¬ (i : Int) < 0 := by omega
    have He1 := hide e1
    have He2 := hide e2
    have He3 := hide e3
    have Hright := hide hright
    have b0 := N0.out.c 0 (v := .slice A n c) rfl
    clear hat e1 e2 e3 hF hflt hfle hDD hEE hright
    go_enter Tryz.func77, Tryz.ntmps77
    go_wp2_with fail
    refine Hat.out.mono ?_
    rintro e w2 ⟨rfl, hb2⟩
    obtain ⟨b, o, CA, cc, XA, xc, SA, sc, rfl, x0, x1, x2, x3, k1, k2, k3, r1, r2, hrows⟩ := (HW.out.below hb2).at_ i hin hiW
    rw [hUe] at x0 x1 x2 x3 k1 k2 k3 r1 r2 hrows
    have hfits := fits14_any U.s (.agg #[.string U.s.name, .slice CA U.s.cols.length cc, .slice XA U.s.ixs.length xc]) RA m rcap row w2 ⟨CA, cc, XA, xc, rfl, k1, k2, r1, r2⟩ Hright.out (Hrow.out.below hb2) Hm.out Hrs.out
    have htw := fun (hft : fitsB U.s row = true) (skip : Int) (W' : World) (hb : Below w2.heap.size w2 W') => twice_any U CA cc XA xc SA sc RA m rcap row skip W' (r2.below hb) (hrows.below hb) ((Hrow.out.below hb2).below hb) Hm.out (by have := ho.tw hUm hft; rwa [Hm.out] at this) (by have := (right_facts Hright.out).x3; omega) (by have := ho.n64 U hUm; omega)
    have hfind := fun (hft : fitsB U.s row = true) W' (hb : Below w2.heap.size w2 W') => find15_any SA U.rows.length sc U.rows (col row 0) W' (hrows.below hb) (ho.pos hUm) (fits_first Hright.out hft Hwf.out).2 (by have := ho.n64 U hUm; omega)
    rw [HF.out] at hfind
    simp only at hfind
    have hn64 := ho.n64 U hUm
    have hflt := Hflt.out
    have hfle := Hfle.out
    obtain ⟨rn, hrn⟩ : ∃ rn, U.rows.length = rn := ⟨_, rfl⟩
    obtain ⟨cn, hcn⟩ : ∃ cn, U.s.cols.length = cn := ⟨_, rfl⟩
    obtain ⟨xn, hxn⟩ : ∃ xn, U.s.ixs.length = xn := ⟨_, rfl⟩
    obtain ⟨un, hun⟩ : ∃ un, U.s.name = un := ⟨_, rfl⟩
    have he1 := He1.out
    rw [hrn] at x3 hfind hflt hfle hn64 htw k3 he1
    rw [hcn] at x1 hfits htw
    rw [hxn] at x2 hfits htw
    rw [hun] at x0 hfits htw
    have Hrn := hide hrn
    have Htw := hide htw
    have Hfind := hide hfind
    have Hflt2 := hide hflt
    have Hfle2 := hide hfle
    have He12 := hide he1
    obtain ⟨fits, hfs⟩ : ∃ fits, fitsB U.s row = fits := ⟨_, rfl⟩
    rw [hfs] at hfits
    have Hfits := hide hfits
    have Hfs := hide hfs
    have HB2 := hide hb2
    have b0 := (N0.out.below hb2).c 0 (v := .slice (some ⟨b, o, none⟩) n c) rfl
    have X0 := hide x0
    have X1 := hide x1
    have X2 := hide x2
    have X3 := hide x3
    clear hrows hfits htw hfind hflt hfle he1 hrn hcn hxn hun hfs hb2 Hat r1 r2 k1 k2 He1 Hflt Hfle HF
    go_wp2_with fail
    refine Hfits.out.mono ?_
    rintro e w3 ⟨rfl, hb3⟩
    have HB3 := hide (below_then HB2.out HB2.out.size hb3)
    have Hb3 := hide hb3
    clear hb3 b0 x0 x1 x2 x3 Hfits
    cases fits with
    | false =>
      obtain rfl : EE = 62 := by rw [He12.out, Hfs.out]; rfl
      obtain rfl : DD = W := He2.out (by decide)
      clear He12 He2 He3
      simp only [cond_false]
      have m0 := N0.out.below HB3.out
      have m2 := N2.out.below HB3.out
      have b0 := m0.c 0 (v := .slice (some ⟨b, o, none⟩) n c) rfl
      have d2 := m2.c 0 (v := .slice none 0 0) rfl
      have f2 := m2.fr 0
      have r2 := (m2.set 0 (.slice (some ⟨b, o, none⟩) n c)).c 0 (v := .slice (some ⟨b, o, none⟩) n c) rfl
      have HBE := hide ((below_chain Ha2.out HB3.out).setCell (p := ⟨w.heap.size + 1, 0, none⟩) (by show w.heap.size ≤ w.heap.size + 1; omega) (.slice (some ⟨b, o, none⟩) n c))
      clear m0 m2
      go_wp2_with fail
      refine bodyPost_ret (v := .tuple #[.agg #[.slice (some ⟨b, o, none⟩) n c], .int .i64 62]) (by simp [results, Tryz.results77, go_sem, r2]) rfl ?_
      exact ⟨(some ⟨b, o, none⟩), n, c, rfl, HW0.out.below HBE.out, HBE.out⟩
    | true =>
      simp only [cond_true]
      have hfit := Hfs.out
      obtain ⟨hpos, hok⟩ := fits_first Hright.out hfit Hwf.out
      have Hok := hide hok
      obtain ⟨rb, ro, rfl, v0, v1, v2⟩ := Rd.col (r := row) (by rw [Hm.out]; exact Hrow.out.below HB3.out) 0 hpos
      rw [Nat.zero_mul, Nat.add_zero] at v0 v1 v2
      obtain ⟨key, hkey⟩ : ∃ key, col row 0 = key := ⟨_, rfl⟩
      rw [hkey] at v0 v1 v2 Hfind
      obtain ⟨kk, kn, ks⟩ := key
      dsimp only at v0 v1 v2
      have hfind2 : ∀ W', Below w3.heap.size w3 W' → Calls Tryz.prog 133 #[.slice SA rn sc, .agg #[.int .i64 kk, .int .i64 kn, .string ks]] W' fun e w' => e = .returned (.tuple #[.int .i64 fk, .bool fb]) ∧ Below W'.heap.size W' w' := fun W' hb => Hfind.out hfit W' (below_then Hb3.out Hb3.out.size hb)
      have htw2 := fun (skip : Int) (W' : World) (hb : Below w3.heap.size w3 W') => Htw.out hfit skip W' (below_then Hb3.out Hb3.out.size hb)
      have Hfind2 := hide hfind2
      have Htw2 := hide htw2
      have b0 := (N0.out.below HB3.out).c 0 (v := .slice (some ⟨b, o, none⟩) n c) rfl
      have x3 := X3.out.below Hb3.out
      have hm0 : (0 : Int) < (m : Int) := by have := Hm.out; omega
      have Hfit := hide hfit
      clear hfind2 htw2 Hfind Htw hkey hfit hok
      go_wp2_with fail
      refine wp_region_bel (by kernel_rfl) (by kernel_rfl) ?_
      intro X hX f hfb hfs
      have y3 : ∀ x, (f x).cell? ⟨b, o + i * 4 + 3, none⟩ = some (.slice SA rn sc) := fun x => x3.below (hfb x)
      have z0 : ∀ x, (f x).cell? ⟨w.heap.size, 0, none⟩ = some (.slice (some ⟨b, o, none⟩) n c) := fun x => b0.below (hfb x)
      have g0 : ∀ x, (f x).cell? ⟨rb, ro, none⟩ = some (.int .i64 kk) := fun x => v0.below (hfb x)
      have g1 : ∀ x, (f x).cell? ⟨rb, ro + 1, none⟩ = some (.int .i64 kn) := fun x => v1.below (hfb x)
      have g2 : ∀ x, (f x).cell? ⟨rb, ro + 2, none⟩ = some (.string ks) := fun x => v2.below (hfb x)
      repeat (go_big_quiet_step ((refine (Hfind2.out _ (hfb _)).mono ?_; rintro e w' ⟨rfl, hb⟩; exact ⟨rfl, hfs w' (below_then (hfb _) (hfb _).size hb)⟩)))
      refine wpQuiet_nil ?_
      rintro w4 ⟨x, rfl⟩
      have HB4 := hide (below_then HB3.out HB3.out.size (hfb x))
      have Hb4 := hide (hfb x)
      obtain ⟨w5, hw5⟩ : ∃ w5, f x = w5 := ⟨_, rfl⟩
      rw [hw5] at HB4 Hb4 ⊢
      clear hfs hw5 hfb g0 g1 g2 b0 x3 v0 v1 v2 y3 z0 Hfind2
      clear x f hX X
      cases fb with
      | true =>
        obtain rfl : EE = 63 := by rw [He12.out, Hfs.out]; rfl
        obtain rfl : DD = W := He2.out (by decide)
        clear He12 He2 He3
        have m0 := N0.out.below HB4.out
        have m2 := N2.out.below HB4.out
        have b0 := m0.c 0 (v := .slice (some ⟨b, o, none⟩) n c) rfl
        have d2 := m2.c 0 (v := .slice none 0 0) rfl
        have f2 := m2.fr 0
        have r2 := (m2.set 0 (.slice (some ⟨b, o, none⟩) n c)).c 0 (v := .slice (some ⟨b, o, none⟩) n c) rfl
        have HBE := hide ((below_chain Ha2.out HB4.out).setCell (p := ⟨w.heap.size + 1, 0, none⟩) (by show w.heap.size ≤ w.heap.size + 1; omega) (.slice (some ⟨b, o, none⟩) n c))
        clear m0 m2
        go_wp2_with fail
        refine bodyPost_ret (v := .tuple #[.agg #[.slice (some ⟨b, o, none⟩) n c], .int .i64 63]) (by simp [results, Tryz.results77, go_sem, r2]) rfl ?_
        exact ⟨(some ⟨b, o, none⟩), n, c, rfl, HW0.out.below HBE.out, HBE.out⟩
      | false =>
        have he1 : EE = if 64 ≤ rn then 2 else if twB U row (-1) = true then 64 else 0 := by rw [He12.out, Hfs.out]; rfl
        have He13 := hide he1
        clear he1 He12
        by_cases h64 : 64 ≤ rn
        · obtain rfl : EE = 2 := by rw [He13.out, if_pos h64]
          obtain rfl : DD = W := He2.out (by decide)
          have x3 := (X3.out.below Hb3.out).below Hb4.out
          have h64i : (64 : Int) ≤ (rn : Int) := by omega
          clear He13 He2 He3
          have m0 := N0.out.below HB4.out
          have m2 := N2.out.below HB4.out
          have b0 := m0.c 0 (v := .slice (some ⟨b, o, none⟩) n c) rfl
          have d2 := m2.c 0 (v := .slice none 0 0) rfl
          have f2 := m2.fr 0
          have r2 := (m2.set 0 (.slice (some ⟨b, o, none⟩) n c)).c 0 (v := .slice (some ⟨b, o, none⟩) n c) rfl
          have HBE := hide ((below_chain Ha2.out HB4.out).setCell (p := ⟨w.heap.size + 1, 0, none⟩) (by show w.heap.size ≤ w.heap.size + 1; omega) (.slice (some ⟨b, o, none⟩) n c))
          clear m0 m2
          go_wp2_with fail
          refine bodyPost_ret (v := .tuple #[.agg #[.slice (some ⟨b, o, none⟩) n c], .int .i64 2]) (by simp [results, Tryz.results77, go_sem, r2]) rfl ?_
          exact ⟨(some ⟨b, o, none⟩), n, c, rfl, HW0.out.below HBE.out, HBE.out⟩
        have he1 : EE = if twB U row (-1) = true then 64 else 0 := by rw [He13.out, if_neg h64]
        have He14 := hide he1
        clear he1 He13
        have b0 := (N0.out.below HB4.out).c 0 (v := .slice (some ⟨b, o, none⟩) n c) rfl
        have x0 := (X0.out.below Hb3.out).below Hb4.out
        have x1 := (X1.out.below Hb3.out).below Hb4.out
        have x2 := (X2.out.below Hb3.out).below Hb4.out
        have x3 := (X3.out.below Hb3.out).below Hb4.out
        have h64i : ¬ (64 : Int) ≤ (rn : Int) := by omega
        have htw := Htw2.out (-1) w5 Hb4.out
        obtain ⟨tw, htwb⟩ : ∃ tw, twB U row (-1) = tw := ⟨_, rfl⟩
        rw [htwb] at htw He14
        have Htw3 := hide htw
        clear htw htwb
        go_wp2_with fail
        refine Htw3.out.mono ?_
        rintro e w6 ⟨rfl, hb6⟩
        have HB6 := hide (below_then HB4.out HB4.out.size hb6)
        have Hb6 := hide (below_then Hb4.out Hb4.out.size hb6)
        clear hb6 b0 x0 x1 x2 x3 Htw3 Htw2
        cases tw with
        | true =>
          obtain rfl : EE = 64 := He14.out
          obtain rfl : DD = W := He2.out (by decide)
          clear He14 He2 He3
          have m0 := N0.out.below HB6.out
          have m2 := N2.out.below HB6.out
          have b0 := m0.c 0 (v := .slice (some ⟨b, o, none⟩) n c) rfl
          have d2 := m2.c 0 (v := .slice none 0 0) rfl
          have f2 := m2.fr 0
          have r2 := (m2.set 0 (.slice (some ⟨b, o, none⟩) n c)).c 0 (v := .slice (some ⟨b, o, none⟩) n c) rfl
          have HBE := hide ((below_chain Ha2.out HB6.out).setCell (p := ⟨w.heap.size + 1, 0, none⟩) (by show w.heap.size ≤ w.heap.size + 1; omega) (.slice (some ⟨b, o, none⟩) n c))
          clear m0 m2
          go_wp2_with fail
          refine bodyPost_ret (v := .tuple #[.agg #[.slice (some ⟨b, o, none⟩) n c], .int .i64 64]) (by simp [results, Tryz.results77, go_sem, r2]) rfl ?_
          exact ⟨(some ⟨b, o, none⟩), n, c, rfl, HW0.out.below HBE.out, HBE.out⟩
        | false =>
          obtain rfl : EE = 0 := He14.out
          obtain rfl := He3.out rfl
          clear He14 He2 He3
          have b0 := (N0.out.below HB6.out).c 0 (v := .slice (some ⟨b, o, none⟩) n c) rfl
          have hcop := copy15_any (some ⟨b, o, none⟩) n c W w w6 (below_chain Ha2.out HB6.out) HW0.out (by omega) ho.n64
          have Hcop := hide hcop
          clear hcop
          go_wp2_with fail
          refine Hcop.out.mono ?_
          rintro e w7 hco
          obtain ⟨A', c', xs, rfl, hcp, hb7⟩ := hco
          obtain ⟨g, RA', rc', sl, rfl, hMg, hgl, y3, hrc', hown, hent⟩ := hcp.at_ hin hU
          rw [Hrn.out] at y3 hrc' hown
          have hal := (Below.refl w7.heap.size w7).alloc (Nat.le_refl _) (.cells #[.slice (some ⟨g, 0, none⟩) n c'] 73)
          have nb := Blk.new w7 #[.slice (some ⟨g, 0, none⟩) n c'] 73
          have hcp8 := hcp.below hal
          have hent8 := hent.below hal
          have hown8 := own_below hown hal
          have y3 := y3.below hal
          have HB8 := hide (below_then HB6.out HB6.out.size (below_chain hb7 hal))
          have Hb8 := hide (show Below w6.heap.size w6 _ from below_chain hb7 hal)
          obtain ⟨w8, hw8⟩ : ∃ w8, w7.alloc (.cells #[.slice (some ⟨g, 0, none⟩) n c'] 73) = w8 := ⟨_, rfl⟩
          have hz8 : w8.heap.size = w7.heap.size + 1 := by rw [← hw8]; simp
          rw [hw8] at nb hcp8 hent8 hown8 y3 HB8 Hb8
          have hgne : w7.heap.size ≠ g := by omega
          have z0 := nb.c 0 (v := .slice (some ⟨g, 0, none⟩) n c') rfl
          have hRd := Rd.of_own hown8
          have hsl := hRd.1
          have HOn := hide ((hent8.take fk).ones)
          have HOd := hide ((hent8.drop fk).ones)
          have HRd := hide hRd
          have HCp := hide hcp8
          have HEnt := hide hent8
          have Nb := hide nb
          have Y3 := hide y3
          have hfle := Hfle2.out
          have hki : (fk : Int) ≤ (rc' : Int) := by omega
          have hki2 : (fk : Int) ≤ (rn : Int) := by omega
          have hki3 : (rn : Int) ≤ (rc' : Int) := by omega
          have hkn : fk ≤ rc' := by omega
          have hk0 : (0 : Int) ≤ (fk : Int) := by omega
          have hptr : (RA' = none ∧ rn = 0 ∧ rc' = 0 ∧ fk = 0) ∨ ∃ gr, RA' = some ⟨gr, 0, none⟩ := by
            rcases hown8.2 with ⟨h1, h2⟩ | ⟨gr, _, _, h1, _⟩
            · injection h1 with h1 h3 h4
              exact .inl ⟨h1, h3, h4, by omega⟩
            injection h1 with h1
            exact .inr ⟨gr, h1⟩
          have hcpd := fun W' (hb : Below w8.heap.size w8 W') => copied_any (some ⟨rb, ro, none⟩) m rcap row W' Hm.out ((Hrow.out.below HB8.out).below hb) hm4
          have Hcpd := hide hcpd
          have Hmf := hide hfle
          clear hcp hown hent hal hcp8 hent8 hown8 hRd nb hb7 b0 Hcop hgl y3 hcpd
          have z0h := hide z0
          have y3 := Y3.out
          rcases hptr with ⟨rfl, rfl, rfl, rfl⟩ | ⟨gr, rfl⟩
          · have hRt : Rd w8 1 none 0 (sl.take 0) := Rd.nil _ _ _
            have hRt2 : Rd w8 1 none (0 - 0) (sl.drop 0) := ⟨by rw [List.drop_zero, hsl], .inl rfl⟩
            have HRt := hide hRt
            have HRt2 := hide hRt2
            clear hRt hRt2
            go_wp2_with (first
              | (at_builtin; refine wp_app (base := w8.heap.size) (n := 0) (xs := []) rowT15 rfl rfl (World.ownsRow_nil _ _ _ _) rfl HRt.out rfl HOn.out (by omega) (by omega) (Nat.le_refl _) ?_; intro A9 c9 w9 hown9 hb9 hg9 hat9)
              | fail)
            rw [Nat.zero_add] at hown9 hat9
            simp only [Nat.zero_add, List.nil_append] at hown9 ⊢
            refine (Hcpd.out w9 hb9).mono ?_
            rintro e w10 ⟨AR, cR, rfl, hownR, hb10⟩
            have hown10 := own_below hown9 hb10
            have Hown10 := hide hown10
            have HownR := hide hownR
            have Hb10 := hide (show Below w8.heap.size w8 w10 from below_chain hb9 hb10)
            have Hb9 := hide hb9
            clear hown9 hb9 hg9 hat9 hownR hb10 hown10 z0 y3
            go_wp2_with (first
              | (at_builtin; refine wp_lit (base := w8.heap.size) (n := 0) (xs := sl.take 0) rowT15 rfl rfl Hown10.out rfl (cs := #[.slice AR m cR]) (m := 1) rfl rfl rfl (by intro u hu; simp only [List.mem_cons, List.mem_nil_iff, or_false] at hu; subst hu; rfl) (by omega) (by omega) Hb10.out.size ?_; intro A11 c11 w11 hown11 hb11 hg11)
              | fail)
            have hb811 : Below w8.heap.size w8 w11 := Hb10.out.trans hb11
            have hownR11 : w11.ownsRow w9.heap.size 28 3 (.slice AR m cR) m (rowCells row) := HownR.out.kept hg11 (own_diff' HownR.out Hown10.out (by decide))
            have z11 := z0h.out.below hb811
            have y11 := Y3.out.below hb811
            have Hown11 := hide hown11
            have HownR11 := hide hownR11
            have Hb811 := hide hb811
            clear hown11 hb11 hg11 hb811 hownR11
            go_wp2_with fail
            refine wp_region_E 15 (fun w' => w'.cell? ⟨w7.heap.size, 0, none⟩ = some (.slice (some ⟨g, 0, none⟩) n c') ∧ w'.cell? ⟨g, i * 4 + 3, none⟩ = some (.slice none 0 0)) (by kernel_rfl) ?_
            have hH : _ ∧ _ := ⟨z11, y11⟩
            refine wpAnyE_take (i := 0) (v := ?_) (by kernel_rfl) rfl (by kernel_rfl) (by kernel_rfl) (by kernel_rfl) (fun _ _ _ h => h) (by rfl) hH ?_ ?_
            rotate_left
            · (rintro w' ⟨s0, s1⟩; go_simp; try with_reducible rfl)
            simp only [Act.put, List.setIfInBounds_toArray, List.set_cons_zero, List.set_cons_succ, List.getElem_toArray, List.getElem_cons_zero, List.getElem_cons_succ]
            refine wpAnyE_take (i := 1) (v := ?_) (by kernel_rfl) rfl (by kernel_rfl) (by kernel_rfl) (by kernel_rfl) (fun _ _ _ h => h) (by rfl) hH ?_ ?_
            rotate_left
            · (rintro w' ⟨s0, s1⟩; go_simp; try with_reducible rfl)
            simp only [Act.put, List.setIfInBounds_toArray, List.set_cons_zero, List.set_cons_succ, List.getElem_toArray, List.getElem_cons_zero, List.getElem_cons_succ]
            refine wpAnyE_take (i := 2) (v := ?_) (by kernel_rfl) rfl (by kernel_rfl) (by kernel_rfl) (by kernel_rfl) (fun _ _ _ h => h) (by rfl) hH ?_ ?_
            rotate_left
            · (rintro w' ⟨s0, s1⟩; go_simp; try with_reducible rfl)
            simp only [Act.put, List.setIfInBounds_toArray, List.set_cons_zero, List.set_cons_succ, List.getElem_toArray, List.getElem_cons_zero, List.getElem_cons_succ]
            refine wpAnyE_take (i := 3) (v := ?_) (by kernel_rfl) rfl (by kernel_rfl) (by kernel_rfl) (by kernel_rfl) (fun _ _ _ h => h) (by rfl) hH ?_ ?_
            rotate_left
            · (rintro w' ⟨s0, s1⟩; go_simp; try with_reducible rfl)
            simp only [Act.put, List.setIfInBounds_toArray, List.set_cons_zero, List.set_cons_succ, List.getElem_toArray, List.getElem_cons_zero, List.getElem_cons_succ]
            refine wpAnyE_take (i := 4) (v := ?_) (by kernel_rfl) rfl (by kernel_rfl) (by kernel_rfl) (by kernel_rfl) (fun _ _ _ h => h) (by rfl) hH ?_ ?_
            rotate_left
            · (rintro w' ⟨s0, s1⟩; go_simp; try with_reducible rfl)
            simp only [Act.put, List.setIfInBounds_toArray, List.set_cons_zero, List.set_cons_succ, List.getElem_toArray, List.getElem_cons_zero, List.getElem_cons_succ]
            refine wpAnyE_take (i := 5) (v := ?_) (by kernel_rfl) rfl (by kernel_rfl) (by kernel_rfl) (by kernel_rfl) (fun _ _ _ h => h) (by rfl) hH ?_ ?_
            rotate_left
            · (rintro w' ⟨s0, s1⟩; go_simp; try with_reducible rfl)
            simp only [Act.put, List.setIfInBounds_toArray, List.set_cons_zero, List.set_cons_succ, List.getElem_toArray, List.getElem_cons_zero, List.getElem_cons_succ]
            refine wpAnyE_take (i := 6) (v := ?_) (by kernel_rfl) rfl (by kernel_rfl) (by kernel_rfl) (by kernel_rfl) (fun _ _ _ h => h) (by rfl) hH ?_ ?_
            rotate_left
            · (rintro w' ⟨s0, s1⟩; go_simp; try with_reducible rfl)
            simp only [Act.put, List.setIfInBounds_toArray, List.set_cons_zero, List.set_cons_succ, List.getElem_toArray, List.getElem_cons_zero, List.getElem_cons_succ]
            refine wpAnyE_take (i := 7) (v := ?_) (by kernel_rfl) rfl (by kernel_rfl) (by kernel_rfl) (by kernel_rfl) (fun _ _ _ h => h) (by rfl) hH ?_ ?_
            rotate_left
            · (rintro w' ⟨s0, s1⟩; go_simp; try with_reducible rfl)
            simp only [Act.put, List.setIfInBounds_toArray, List.set_cons_zero, List.set_cons_succ, List.getElem_toArray, List.getElem_cons_zero, List.getElem_cons_succ]
            refine wpAnyE_take (i := 8) (v := ?_) (by kernel_rfl) rfl (by kernel_rfl) (by kernel_rfl) (by kernel_rfl) (fun _ _ _ h => h) (by rfl) hH ?_ ?_
            rotate_left
            · (rintro w' ⟨s0, s1⟩; go_simp; try with_reducible rfl)
            simp only [Act.put, List.setIfInBounds_toArray, List.set_cons_zero, List.set_cons_succ, List.getElem_toArray, List.getElem_cons_zero, List.getElem_cons_succ]
            refine wpAnyE_take (i := 9) (v := ?_) (by kernel_rfl) rfl (by kernel_rfl) (by kernel_rfl) (by kernel_rfl) (fun _ _ _ h => h) (by rfl) hH ?_ ?_
            rotate_left
            · (rintro w' ⟨s0, s1⟩; go_simp; try with_reducible rfl)
            simp only [Act.put, List.setIfInBounds_toArray, List.set_cons_zero, List.set_cons_succ, List.getElem_toArray, List.getElem_cons_zero, List.getElem_cons_succ]
            refine wpAnyE_take (i := 10) (v := ?_) (by kernel_rfl) rfl (by kernel_rfl) (by kernel_rfl) (by kernel_rfl) (fun _ _ _ h => h) (by rfl) hH ?_ ?_
            rotate_left
            · (rintro w' ⟨s0, s1⟩; go_simp; try with_reducible rfl)
            simp only [Act.put, List.setIfInBounds_toArray, List.set_cons_zero, List.set_cons_succ, List.getElem_toArray, List.getElem_cons_zero, List.getElem_cons_succ]
            refine wpAnyE_take (i := 11) (v := ?_) (by kernel_rfl) rfl (by kernel_rfl) (by kernel_rfl) (by kernel_rfl) (fun _ _ _ h => h) (by rfl) hH ?_ ?_
            rotate_left
            · (rintro w' ⟨s0, s1⟩; go_simp; try with_reducible rfl)
            simp only [Act.put, List.setIfInBounds_toArray, List.set_cons_zero, List.set_cons_succ, List.getElem_toArray, List.getElem_cons_zero, List.getElem_cons_succ]
            refine wpAnyE_one (i := 12) (by kernel_rfl) rfl (by rfl) fun K hK => ?_
            refine oper_app (base := w8.heap.size) rowT15 rfl Hown11.out rfl (news := sl.drop 0) (HRt2.out.below Hb811.out).drew rfl HOd.out (by omega) (by omega) (by have h1 := Hb811.out.size; exact h1) ?_
            intro A12 c12 w12 hown12 hb12 hg12 hat12
            have hb812 : Below w8.heap.size w8 w12 := Hb811.out.trans ((Below.refl _ _).drew.trans hb12)
            have hH : _ ∧ _ := ⟨z0h.out.below hb812, Y3.out.below hb812⟩
            refine hK _ _ (.inr hH) ?_
            clear hK K
            try simp only [Act.put, List.setIfInBounds_toArray, List.set_cons_zero, List.set_cons_succ, List.getElem_toArray, List.getElem_cons_zero, List.getElem_cons_succ]
            have hownR12 : w12.ownsRow w9.heap.size 28 3 (.slice AR m cR) m (rowCells row) := (own_below HownR11.out (Below.refl _ _).drew).kept hg12 (own_diff' HownR11.out Hown11.out (by decide))
            have HownR12 := hide hownR12
            have Hb812 := hide hb812
            have Hown12 := hide hown12
            clear hown12 hg12 hat12 hb12 hb812 hownR12
            refine wpAnyE_one (i := 13) (by kernel_rfl) rfl (by rfl) fun K hK => ?_
            go_simp
            refine hK _ _ (.inr hH) ?_
            clear hK K
            try simp only [Act.put, List.setIfInBounds_toArray, List.set_cons_zero, List.set_cons_succ, List.getElem_toArray, List.getElem_cons_zero, List.getElem_cons_succ]
            refine wpAnyE_one (i := 14) (by kernel_rfl) rfl (by rfl) fun K hK => ?_
            go_simp
            refine hK _ _ (.inr hH) ?_
            clear hK K
            try simp only [Act.put, List.setIfInBounds_toArray, List.set_cons_zero, List.set_cons_succ, List.getElem_toArray, List.getElem_cons_zero, List.getElem_cons_succ]
            have hrows : U.rows.take 0 ++ row :: U.rows.drop 0 = (U.rows.take 0 ++ [row]) ++ U.rows.drop 0 := by simp
            have hlen : (U.rows.take 0 ++ row :: U.rows.drop 0).length = (0 + 1 + (0 - 0)) := by rw [hrows, List.length_append, List.length_append, List.length_take, List.length_drop, Hrn.out]; simp; try omega
            have hkb : w.heap.size + 1 < w6.heap.size := Nat.lt_of_lt_of_le N2.out.lt HB6.out.size
            have hkg : w.heap.size + 1 ≠ g := by omega
            have hcp12 := HCp.out.below Hb812.out
            have q1 := hH.2
            have q2 : w12.frozen? ⟨g, i * 4 + 3, none⟩ = false := hcp12.own.frozenAt _
            have hcpT := hcp12.set (a := ⟨w.heap.size + 1, 0, none⟩) hkb (.slice (some ⟨g, 0, none⟩) n c')
            have hMs : w6.heap.size ≤ w8.heap.size := Hb8.out.size
            have hM9 : w6.heap.size ≤ w9.heap.size := Nat.le_trans hMs Hb9.out.size
            have hra : RowAt F w6.heap.size w w12 AR cR row := ⟨.inr (by rw [Hm.out]; exact own_mono HownR12.out hM9), by rw [Hm.out]; omega⟩
            have hentT := ((((HEnt.out.take 0).below Hb812.out).append (Ent.one hra)).append ((HEnt.out.drop 0).below Hb812.out)).set (a := ⟨w.heap.size + 1, 0, none⟩) hkb (.slice (some ⟨g, 0, none⟩) n c')
            rw [← hrows, Hm.out] at hentT
            have hown12 := own_set (own_mono Hown12.out hMs) (a := ⟨w.heap.size + 1, 0, none⟩) hkb (.slice (some ⟨g, 0, none⟩) n c')
            rw [← hlen] at hown12
            have hb112 : Below W1.heap.size W1 w12 := below_then HB8.out HB8.out.size Hb812.out
            have hbwT : Below w.heap.size w (w12.setCell ⟨w.heap.size + 1, 0, none⟩ (.slice (some ⟨g, 0, none⟩) n c')) := (below_chain Ha2.out hb112).setCell (p := ⟨w.heap.size + 1, 0, none⟩) (by show w.heap.size ≤ w.heap.size + 1; omega) _
            obtain ⟨g', RA9, rc9, hg', _, _, _, q4, q5⟩ := hcpT.dbr_set (show W.length = n from Hl.out) (Nat.le_trans Ha2.out.size HB6.out.size) hbwT (fun b hb => Nat.lt_of_lt_of_le (HFo.out b hb) (Nat.le_trans Ha2.out.size HB6.out.size)) hU hown12 hentT.2
            injection hg' with hg'
            injection hg' with hg' _ _
            subst hg'
            rw [hlen] at q4 q5
            have e9 := setCell_comm w12 ⟨w.heap.size + 1, 0, none⟩ ⟨g, i * 4 + 3, none⟩ (.slice (some ⟨g, 0, none⟩) n c') (.slice A12 (0 + 1 + (0 - 0)) c12) (by exact hkg)
            rw [e9] at q4 q5
            have m2 := (N2.out.below hb112).set_other (a := ⟨g, i * 4 + 3, none⟩) (by exact hkg) (.slice A12 (0 + 1 + (0 - 0)) c12)
            have d10 := m2.c 0 (v := .slice none 0 0) rfl
            have f10 := m2.fr 0
            have r10 := (m2.set 0 (.slice (some ⟨g, 0, none⟩) n c')).c 0 (v := .slice (some ⟨g, 0, none⟩) n c') rfl
            have z10 := ((Nb.out.below Hb812.out).set_other (a := ⟨g, i * 4 + 3, none⟩) (by exact hgne) (.slice A12 (0 + 1 + (0 - 0)) c12)).c 0 (v := .slice (some ⟨g, 0, none⟩) n c') rfl
            have Q4 := hide q4
            have Q5 := hide q5
            clear q4 q5 hown12 hentT hcpT hcp12 e9 m2 hb112 hbwT hrows hlen hra
            refine wpAnyE_one (i := 15) (by kernel_rfl) rfl (by rfl) fun K hK => ?_
            go_simp
            refine hK _ _ (.inl rfl) ?_
            clear hK K
            try simp only [Act.put, List.setIfInBounds_toArray, List.set_cons_zero, List.set_cons_succ, List.getElem_toArray, List.getElem_cons_zero, List.getElem_cons_succ]
            refine wpAnyE_done (by kernel_rfl) ?_ _
            go_wp2_with fail
            all_goals
              refine bodyPost_ret (v := .tuple #[.agg #[.slice (some ⟨g, 0, none⟩) n c'], .int .i64 0]) (by simp [results, Tryz.results77, go_sem, r10]) rfl ?_
              exact ⟨some ⟨g, 0, none⟩, n, c', rfl, Q4.out, Q5.out⟩
          have hRt : Rd w8 1 (some ⟨gr, 0, none⟩) fk (sl.take fk) := by
            refine ⟨by rw [List.length_take, hsl]; omega, ?_⟩
            rcases HRd.out.2 with h | ⟨b', o', hA, hc⟩
            · exact .inl (by omega)
            exact .inr ⟨b', o', hA, fun q hq => by
              rw [List.length_take] at hq
              rw [List.getElem?_take, if_pos (by omega)]
              exact hc q (by omega)⟩
          have hRt2 : Rd w8 1 (if rc' = fk then some ⟨gr, 0, none⟩ else some ⟨gr, fk, none⟩) (rn - fk) (sl.drop fk) := by
            have h1 := HRd.out.from_ (k := fk) (by omega)
            rw [Nat.zero_add] at h1
            split
            · exact ⟨h1.1, .inl (by omega)⟩
            exact h1
          have HRt := hide hRt
          have HRt2 := hide hRt2
          clear hRt hRt2
          go_wp2_with (first
            | (at_builtin; refine wp_app (base := w8.heap.size) (n := 0) (xs := []) rowT15 rfl rfl (World.ownsRow_nil _ _ _ _) rfl HRt.out rfl HOn.out (by omega) (by omega) (Nat.le_refl _) ?_; intro A9 c9 w9 hown9 hb9 hg9 hat9)
            | fail)
          rw [Nat.zero_add] at hown9 hat9
          simp only [Nat.zero_add, List.nil_append] at hown9 ⊢
          refine (Hcpd.out w9 hb9).mono ?_
          rintro e w10 ⟨AR, cR, rfl, hownR, hb10⟩
          have hown10 := own_below hown9 hb10
          have Hown10 := hide hown10
          have HownR := hide hownR
          have Hb10 := hide (show Below w8.heap.size w8 w10 from below_chain hb9 hb10)
          have Hb9 := hide hb9
          clear hown9 hb9 hg9 hat9 hownR hb10 hown10 z0 y3
          go_wp2_with (first
            | (at_builtin; refine wp_lit (base := w8.heap.size) (n := fk) (xs := sl.take fk) rowT15 rfl rfl Hown10.out rfl (cs := #[.slice AR m cR]) (m := 1) rfl rfl rfl (by intro u hu; simp only [List.mem_cons, List.mem_nil_iff, or_false] at hu; subst hu; rfl) (by omega) (by omega) Hb10.out.size ?_; intro A11 c11 w11 hown11 hb11 hg11)
            | fail)
          have hb811 : Below w8.heap.size w8 w11 := Hb10.out.trans hb11
          have hownR11 : w11.ownsRow w9.heap.size 28 3 (.slice AR m cR) m (rowCells row) := HownR.out.kept hg11 (own_diff' HownR.out Hown10.out (by decide))
          have z11 := z0h.out.below hb811
          have y11 := Y3.out.below hb811
          have Hown11 := hide hown11
          have HownR11 := hide hownR11
          have Hb811 := hide hb811
          clear hown11 hb11 hg11 hb811 hownR11
          go_wp2_with fail
          refine wp_region_E 15 (fun w' => w'.cell? ⟨w7.heap.size, 0, none⟩ = some (.slice (some ⟨g, 0, none⟩) n c') ∧ w'.cell? ⟨g, i * 4 + 3, none⟩ = some (.slice (some ⟨gr, 0, none⟩) rn rc')) (by kernel_rfl) ?_
          have hH : _ ∧ _ := ⟨z11, y11⟩
          refine wpAnyE_take (i := 0) (v := ?_) (by kernel_rfl) rfl (by kernel_rfl) (by kernel_rfl) (by kernel_rfl) (fun _ _ _ h => h) (by rfl) hH ?_ ?_
          rotate_left
          · (rintro w' ⟨s0, s1⟩; go_simp; try with_reducible rfl)
          simp only [Act.put, List.setIfInBounds_toArray, List.set_cons_zero, List.set_cons_succ, List.getElem_toArray, List.getElem_cons_zero, List.getElem_cons_succ]
          refine wpAnyE_take (i := 1) (v := ?_) (by kernel_rfl) rfl (by kernel_rfl) (by kernel_rfl) (by kernel_rfl) (fun _ _ _ h => h) (by rfl) hH ?_ ?_
          rotate_left
          · (rintro w' ⟨s0, s1⟩; go_simp; try with_reducible rfl)
          simp only [Act.put, List.setIfInBounds_toArray, List.set_cons_zero, List.set_cons_succ, List.getElem_toArray, List.getElem_cons_zero, List.getElem_cons_succ]
          refine wpAnyE_take (i := 2) (v := ?_) (by kernel_rfl) rfl (by kernel_rfl) (by kernel_rfl) (by kernel_rfl) (fun _ _ _ h => h) (by rfl) hH ?_ ?_
          rotate_left
          · (rintro w' ⟨s0, s1⟩; go_simp; try with_reducible rfl)
          simp only [Act.put, List.setIfInBounds_toArray, List.set_cons_zero, List.set_cons_succ, List.getElem_toArray, List.getElem_cons_zero, List.getElem_cons_succ]
          refine wpAnyE_take (i := 3) (v := ?_) (by kernel_rfl) rfl (by kernel_rfl) (by kernel_rfl) (by kernel_rfl) (fun _ _ _ h => h) (by rfl) hH ?_ ?_
          rotate_left
          · (rintro w' ⟨s0, s1⟩; go_simp; try with_reducible rfl)
          simp only [Act.put, List.setIfInBounds_toArray, List.set_cons_zero, List.set_cons_succ, List.getElem_toArray, List.getElem_cons_zero, List.getElem_cons_succ]
          refine wpAnyE_take (i := 4) (v := ?_) (by kernel_rfl) rfl (by kernel_rfl) (by kernel_rfl) (by kernel_rfl) (fun _ _ _ h => h) (by rfl) hH ?_ ?_
          rotate_left
          · (rintro w' ⟨s0, s1⟩; go_simp; try with_reducible rfl)
          simp only [Act.put, List.setIfInBounds_toArray, List.set_cons_zero, List.set_cons_succ, List.getElem_toArray, List.getElem_cons_zero, List.getElem_cons_succ]
          refine wpAnyE_take (i := 5) (v := ?_) (by kernel_rfl) rfl (by kernel_rfl) (by kernel_rfl) (by kernel_rfl) (fun _ _ _ h => h) (by rfl) hH ?_ ?_
          rotate_left
          · (rintro w' ⟨s0, s1⟩; go_simp; try with_reducible rfl)
          simp only [Act.put, List.setIfInBounds_toArray, List.set_cons_zero, List.set_cons_succ, List.getElem_toArray, List.getElem_cons_zero, List.getElem_cons_succ]
          refine wpAnyE_take (i := 6) (v := ?_) (by kernel_rfl) rfl (by kernel_rfl) (by kernel_rfl) (by kernel_rfl) (fun _ _ _ h => h) (by rfl) hH ?_ ?_
          rotate_left
          · (rintro w' ⟨s0, s1⟩; go_simp; try with_reducible rfl)
          simp only [Act.put, List.setIfInBounds_toArray, List.set_cons_zero, List.set_cons_succ, List.getElem_toArray, List.getElem_cons_zero, List.getElem_cons_succ]
          refine wpAnyE_take (i := 7) (v := ?_) (by kernel_rfl) rfl (by kernel_rfl) (by kernel_rfl) (by kernel_rfl) (fun _ _ _ h => h) (by rfl) hH ?_ ?_
          rotate_left
          · (rintro w' ⟨s0, s1⟩; go_simp; try with_reducible rfl)
          simp only [Act.put, List.setIfInBounds_toArray, List.set_cons_zero, List.set_cons_succ, List.getElem_toArray, List.getElem_cons_zero, List.getElem_cons_succ]
          refine wpAnyE_take (i := 8) (v := ?_) (by kernel_rfl) rfl (by kernel_rfl) (by kernel_rfl) (by kernel_rfl) (fun _ _ _ h => h) (by rfl) hH ?_ ?_
          rotate_left
          · (rintro w' ⟨s0, s1⟩; go_simp; try with_reducible rfl)
          simp only [Act.put, List.setIfInBounds_toArray, List.set_cons_zero, List.set_cons_succ, List.getElem_toArray, List.getElem_cons_zero, List.getElem_cons_succ]
          refine wpAnyE_take (i := 9) (v := ?_) (by kernel_rfl) rfl (by kernel_rfl) (by kernel_rfl) (by kernel_rfl) (fun _ _ _ h => h) (by rfl) hH ?_ ?_
          rotate_left
          · (rintro w' ⟨s0, s1⟩; go_simp; try with_reducible rfl)
          simp only [Act.put, List.setIfInBounds_toArray, List.set_cons_zero, List.set_cons_succ, List.getElem_toArray, List.getElem_cons_zero, List.getElem_cons_succ]
          refine wpAnyE_take (i := 10) (v := ?_) (by kernel_rfl) rfl (by kernel_rfl) (by kernel_rfl) (by kernel_rfl) (fun _ _ _ h => h) (by rfl) hH ?_ ?_
          rotate_left
          · (rintro w' ⟨s0, s1⟩; go_simp; try with_reducible rfl)
          simp only [Act.put, List.setIfInBounds_toArray, List.set_cons_zero, List.set_cons_succ, List.getElem_toArray, List.getElem_cons_zero, List.getElem_cons_succ]
          refine wpAnyE_take (i := 11) (v := ?_) (by kernel_rfl) rfl (by kernel_rfl) (by kernel_rfl) (by kernel_rfl) (fun _ _ _ h => h) (by rfl) hH ?_ ?_
          rotate_left
          · (rintro w' ⟨s0, s1⟩; go_simp; try with_reducible rfl)
          simp only [Act.put, List.setIfInBounds_toArray, List.set_cons_zero, List.set_cons_succ, List.getElem_toArray, List.getElem_cons_zero, List.getElem_cons_succ]
          refine wpAnyE_one (i := 12) (by kernel_rfl) rfl (by rfl) fun K hK => ?_
          refine oper_app (base := w8.heap.size) rowT15 rfl Hown11.out rfl (news := sl.drop fk) (HRt2.out.below Hb811.out).drew rfl HOd.out (by omega) (by omega) (by have h1 := Hb811.out.size; exact h1) ?_
          intro A12 c12 w12 hown12 hb12 hg12 hat12
          have hb812 : Below w8.heap.size w8 w12 := Hb811.out.trans ((Below.refl _ _).drew.trans hb12)
          have hH : _ ∧ _ := ⟨z0h.out.below hb812, Y3.out.below hb812⟩
          refine hK _ _ (.inr hH) ?_
          clear hK K
          try simp only [Act.put, List.setIfInBounds_toArray, List.set_cons_zero, List.set_cons_succ, List.getElem_toArray, List.getElem_cons_zero, List.getElem_cons_succ]
          have hownR12 : w12.ownsRow w9.heap.size 28 3 (.slice AR m cR) m (rowCells row) := (own_below HownR11.out (Below.refl _ _).drew).kept hg12 (own_diff' HownR11.out Hown11.out (by decide))
          have HownR12 := hide hownR12
          have Hb812 := hide hb812
          have Hown12 := hide hown12
          clear hown12 hg12 hat12 hb12 hb812 hownR12
          refine wpAnyE_one (i := 13) (by kernel_rfl) rfl (by rfl) fun K hK => ?_
          go_simp
          refine hK _ _ (.inr hH) ?_
          clear hK K
          try simp only [Act.put, List.setIfInBounds_toArray, List.set_cons_zero, List.set_cons_succ, List.getElem_toArray, List.getElem_cons_zero, List.getElem_cons_succ]
          refine wpAnyE_one (i := 14) (by kernel_rfl) rfl (by rfl) fun K hK => ?_
          go_simp
          refine hK _ _ (.inr hH) ?_
          clear hK K
          try simp only [Act.put, List.setIfInBounds_toArray, List.set_cons_zero, List.set_cons_succ, List.getElem_toArray, List.getElem_cons_zero, List.getElem_cons_succ]
          have hrows : U.rows.take fk ++ row :: U.rows.drop fk = (U.rows.take fk ++ [row]) ++ U.rows.drop fk := by simp
          have hlen : (U.rows.take fk ++ row :: U.rows.drop fk).length = (fk + 1 + (rn - fk)) := by rw [hrows, List.length_append, List.length_append, List.length_take, List.length_drop, Hrn.out]; simp; try omega
          have hkb : w.heap.size + 1 < w6.heap.size := Nat.lt_of_lt_of_le N2.out.lt HB6.out.size
          have hkg : w.heap.size + 1 ≠ g := by omega
          have hcp12 := HCp.out.below Hb812.out
          have q1 := hH.2
          have q2 : w12.frozen? ⟨g, i * 4 + 3, none⟩ = false := hcp12.own.frozenAt _
          have hcpT := hcp12.set (a := ⟨w.heap.size + 1, 0, none⟩) hkb (.slice (some ⟨g, 0, none⟩) n c')
          have hMs : w6.heap.size ≤ w8.heap.size := Hb8.out.size
          have hM9 : w6.heap.size ≤ w9.heap.size := Nat.le_trans hMs Hb9.out.size
          have hra : RowAt F w6.heap.size w w12 AR cR row := ⟨.inr (by rw [Hm.out]; exact own_mono HownR12.out hM9), by rw [Hm.out]; omega⟩
          have hentT := ((((HEnt.out.take fk).below Hb812.out).append (Ent.one hra)).append ((HEnt.out.drop fk).below Hb812.out)).set (a := ⟨w.heap.size + 1, 0, none⟩) hkb (.slice (some ⟨g, 0, none⟩) n c')
          rw [← hrows, Hm.out] at hentT
          have hown12 := own_set (own_mono Hown12.out hMs) (a := ⟨w.heap.size + 1, 0, none⟩) hkb (.slice (some ⟨g, 0, none⟩) n c')
          rw [← hlen] at hown12
          have hb112 : Below W1.heap.size W1 w12 := below_then HB8.out HB8.out.size Hb812.out
          have hbwT : Below w.heap.size w (w12.setCell ⟨w.heap.size + 1, 0, none⟩ (.slice (some ⟨g, 0, none⟩) n c')) := (below_chain Ha2.out hb112).setCell (p := ⟨w.heap.size + 1, 0, none⟩) (by show w.heap.size ≤ w.heap.size + 1; omega) _
          obtain ⟨g', RA9, rc9, hg', _, _, _, q4, q5⟩ := hcpT.dbr_set (show W.length = n from Hl.out) (Nat.le_trans Ha2.out.size HB6.out.size) hbwT (fun b hb => Nat.lt_of_lt_of_le (HFo.out b hb) (Nat.le_trans Ha2.out.size HB6.out.size)) hU hown12 hentT.2
          injection hg' with hg'
          injection hg' with hg' _ _
          subst hg'
          rw [hlen] at q4 q5
          have e9 := setCell_comm w12 ⟨w.heap.size + 1, 0, none⟩ ⟨g, i * 4 + 3, none⟩ (.slice (some ⟨g, 0, none⟩) n c') (.slice A12 (fk + 1 + (rn - fk)) c12) (by exact hkg)
          rw [e9] at q4 q5
          have m2 := (N2.out.below hb112).set_other (a := ⟨g, i * 4 + 3, none⟩) (by exact hkg) (.slice A12 (fk + 1 + (rn - fk)) c12)
          have d10 := m2.c 0 (v := .slice none 0 0) rfl
          have f10 := m2.fr 0
          have r10 := (m2.set 0 (.slice (some ⟨g, 0, none⟩) n c')).c 0 (v := .slice (some ⟨g, 0, none⟩) n c') rfl
          have z10 := ((Nb.out.below Hb812.out).set_other (a := ⟨g, i * 4 + 3, none⟩) (by exact hgne) (.slice A12 (fk + 1 + (rn - fk)) c12)).c 0 (v := .slice (some ⟨g, 0, none⟩) n c') rfl
          have Q4 := hide q4
          have Q5 := hide q5
          clear q4 q5 hown12 hentT hcpT hcp12 e9 m2 hb112 hbwT hrows hlen hra
          refine wpAnyE_one (i := 15) (by kernel_rfl) rfl (by rfl) fun K hK => ?_
          go_simp
          refine hK _ _ (.inl rfl) ?_
          clear hK K
          try simp only [Act.put, List.setIfInBounds_toArray, List.set_cons_zero, List.set_cons_succ, List.getElem_toArray, List.getElem_cons_zero, List.getElem_cons_succ]
          refine wpAnyE_done (by kernel_rfl) ?_ _
          go_wp2_with fail
          all_goals
            refine bodyPost_ret (v := .tuple #[.agg #[.slice (some ⟨g, 0, none⟩) n c'], .int .i64 0]) (by simp [results, Tryz.results77, go_sem, r10]) rfl ?_
            exact ⟨some ⟨g, 0, none⟩, n, c', rfl, Q4.out, Q5.out⟩
end Go.Proofs.YtekokogmnhlchaaGreatDoor
