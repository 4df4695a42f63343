import Derived.Test.YtekokogmnhlchaaGreatDoorB1
import Derived.Test.YtekokogmnhlchaaGreatDoorB3
import Derived.Test.YtekokogmnhlchaaGreatDoorA0
import Derived.Test.YtekokogmnhlchaaGreatDoorA3
import Derived.Shelf.Slices.Turned
import Derived.Deep.DeepCutAuto
import Derived.Deep.Cut
set_option linter.unusedSimpArgs false
set_option linter.unusedVariables false
set_option linter.unusedSectionVars false
namespace Go.Proofs.YtekokogmnhlchaaGreatDoor
open Go.RowKit
theorem contS_any (A : Option Addr) (n c : Nat) (ns : List ByteArray) (x : ByteArray) (w : World) (h : Rd w 1 A n (strs ns)) (hn : ns.length = n) (hn2 : n ≤ 1000) :
    Calls Tryz.prog 55 #[.slice A n c, .string x] w fun e w' => e = .returned (.bool (ns.any (fun y => decide (y = x)))) ∧ w = w' := by
  rcases Nat.eq_zero_or_pos n with h0 | h0
  · subst h0
    have : ns = [] := List.eq_nil_of_length_eq_zero hn
    subst this
    refine (Any.slices_Contains_string_empty Tryz.lays110 A c x w).mono ?_
    rintro e w' ⟨rfl, rfl⟩
    exact ⟨by simp, rfl⟩
  obtain ⟨b, o, rfl, hc⟩ := h.some_ h0
  refine (Any.slices_Contains_string Tryz.lays110 b o n c ns x w (by omega) (by omega) (fun j hj => ?_)).mono ?_
  · rw [hc j (by simpa [strs] using hj)]
    simp [strs, List.getD_eq_getElem?_getD, List.getElem?_eq_getElem hj]
  rintro e w' ⟨rfl, rfl⟩
  refine ⟨ret_bool ?_, rfl⟩
  rw [List.take_of_length_le (by omega), Bool.eq_iff_iff, Lib.containsS_iff]
  simp
theorem Rd.ne {w w' : World} {k n b o : Nat} {xs : List Value} {row : Option Nat} (h : Rd w k (some ⟨b, o, none⟩) n xs) (hg : w.grownBy w' row) (hne : some b ≠ row) : Rd w' k (some ⟨b, o, none⟩) n xs := by
  refine ⟨h.1, ?_⟩
  rcases h.2 with h0 | ⟨b', o', hA, hc⟩
  · exact .inl h0
  cases hA
  refine .inr ⟨b, o, rfl, fun j hj => ?_⟩
  have hj' := hc j hj
  rw [List.getElem?_eq_getElem hj] at hj' ⊢
  exact (hg.cell_far ⟨b, o + j, none⟩ (World.block_lt_of_cell? w _ hj') hne).trans hj'
set_option maxHeartbeats 3200000 in
set_option maxRecDepth 1000000 in
theorem cre_ok (B0 db sb : Nat) (L : List Chg) (D : List Tb) (s : Sch) (sv : Value) (w : World) (hd : DbAt B0 w db sb L D) (hL : L.length ≤ 50000) (hs : rightS s = true) (hv : SchV w s sv) (hB0 : B0 ≤ w.heap.size) :
    Calls Tryz.prog 17 #[.pointer (some ⟨db, 0, none⟩), sv] w (OpPost B0 db sb w L (creX D s) (creE D s) (creD D s)) := by
  obtain ⟨E, hE⟩ : ∃ E, creE D s = E := ⟨_, rfl⟩
  obtain ⟨D', hD'⟩ : ∃ D', creD D s = D' := ⟨_, rfl⟩
  rw [hE, hD']
  have hv' := hv
  obtain ⟨CA, cc, XA, xc, rfl, k1, k2, k3, k4⟩ := hv
  have hal := (Below.refl w.heap.size w).alloc (Nat.le_refl _) (.cells #[.string s.name, .slice CA s.cols.length cc, .slice XA s.ixs.length xc] 25)
  have hbl := Blk.new w #[.string s.name, .slice CA s.cols.length cc, .slice XA s.ixs.length xc] 25
  obtain ⟨W0, hW0⟩ : ∃ W0, w.alloc (.cells #[.string s.name, .slice CA s.cols.length cc, .slice XA s.ixs.length xc] 25) = W0 := ⟨_, rfl⟩
  rw [hW0] at hal hbl
  have hnames := names_any B0 db sb L D W0 (hd.below hal) (by omega)
  have HD := hide hd
  have HE := hide hE
  have HD' := hide hD'
  have Hal := hide hal
  have Hbl := hide hbl
  have Hn := hide hnames
  have Hs := hide hs
  have Hv := hide (hv'.below hal)
  have h4 := hd.ok.n4
  have hEE : E = (if D.any (fun T => decide (T.s.name = s.name)) then 60 else if 4 ≤ D.length then 2 else 0) := by rw [← hE, creE, if_pos hs]
  have HEE := hide hEE
  have hnsz := name_size (right_facts hs).nm
  have hesz := encS_len hs
  obtain ⟨dn, hdn⟩ : ∃ dn, D.length = dn := ⟨_, rfl⟩
  have Hdn := hide hdn
  rw [hdn] at h4
  clear hd hE hD' hal hbl hnames hs hv' k3 k4 hEE hdn
  go_enter Tryz.func17, Tryz.ntmps17
  go_wp2_with fail
  refine Hn.out.mono ?_
  rintro e w1 ⟨ns, A, c, hnl, rfl, hown, hb1⟩
  have q := Hbl.out.below hb1
  have q0 := q.c 0 (v := .string s.name) rfl
  have q1 := q.c 1 (v := .slice CA s.cols.length cc) rfl
  have q2 := q.c 2 (v := .slice XA s.ixs.length xc) rfl
  have henc := encode_ok s _ w1 (Hv.out.below hb1) Hs.out
  have hb := below_then Hal.out Hal.out.size hb1
  rw [Hdn.out] at hown ⊢
  have Hq := hide q
  have Henc := hide henc
  have Hb := hide hb
  have Hown := hide hown
  have Hnl := hide hnl
  clear q henc hb1 hown hnl hb Hn hW0 Hv
  go_wp2_with fail
  refine Henc.out.mono ?_
  rintro e w3 ⟨EA, ec, rfl, hown3, hb3⟩
  have hnsl : ns.length = dn := Hnl.out.len.trans Hdn.out
  have hin : ns.any (fun y => decide (y = s.name)) = D.any (fun T => decide (T.s.name = s.name)) := by
    rw [Bool.eq_iff_iff]
    simp only [decide_eq_true_eq, List.any_eq_true]
    constructor
    · rintro ⟨x, hx, he⟩
      subst he
      obtain ⟨i, T, hT, he⟩ := (Hnl.out.mem _).1 hx
      exact ⟨T, List.mem_of_getElem? hT, he⟩
    rintro ⟨T, hT, he⟩
    obtain ⟨i, hi⟩ := List.getElem?_of_mem hT
    exact ⟨_, (Hnl.out.mem _).2 ⟨i, T, hi, he⟩, rfl⟩
  have hq3 := Hq.out.below hb3
  have r0 := hq3.c 0 (v := .string s.name) rfl
  have hcon := contS_any A dn c ns s.name w3 ((Rd.of_own Hown.out).below hb3) hnsl (by omega)
  rw [hin] at hcon
  obtain ⟨el, hel⟩ : ∃ el, (encS s).length = el := ⟨_, rfl⟩
  have Hel := hide hel
  rw [hel] at hown3 hesz ⊢
  have Hb3 := hide (below_then Hb.out Hb.out.size hb3)
  have He3 := hide (Rd.of_own hown3)
  have Hcon := hide hcon
  have Hq3 := hide hq3
  clear hb3 hown3 hcon hq3 q0 q1 q2 hin hel Hown Hnl
  go_wp2_with fail
  refine Hcon.out.mono ?_
  rintro e w' ⟨rfl, rfl⟩
  cases hany : D.any (fun T => decide (T.s.name = s.name)) with
  | true =>
    have h60 : E = 60 := by rw [HEE.out, hany]; rfl
    subst h60
    have hDD : D' = D := by rw [← HD'.out, creD, HE.out]; rfl
    subst hDD
    go_wp2_with fail
    go_ret
    exact OpPost.refused HD.out rfl Hb3.out
  | false =>
    by_cases h44 : 4 ≤ dn
    · have h2 : E = 2 := by rw [HEE.out, hany, Hdn.out, if_pos h44]; rfl
      subst h2
      have hDD : D' = D := by rw [← HD'.out, creD, HE.out]; rfl
      subst hDD
      have h44i : (4 : Int) ≤ (dn : Int) := by omega
      go_wp2_with fail
      go_ret
      exact OpPost.refused HD.out rfl Hb3.out
    have h2 : E = 0 := by rw [HEE.out, hany, Hdn.out, if_neg h44]; rfl
    subst h2
    have hDD : D' = D ++ [⟨s, []⟩] := by rw [← HD'.out, creD, HE.out]; rfl
    subst hDD
    have h44i : ¬ (4 : Int) ≤ (dn : Int) := by omega
    have hw8 : IntKind.u8.wrap (dn : Int) = dn := wrap_u8 _ (by omega) (by omega)
    have hnn : ∀ (j : Nat) T, D[j]? = some T → T.s.name ≠ s.name := fun j T hT he => by
      have : D.any (fun T => decide (T.s.name = s.name)) = true := by
        rw [List.any_eq_true]; exact ⟨T, List.mem_of_getElem? hT, by simpa using he⟩
      rw [hany] at this; cases this
    have hmk : mkC D s = ⟨0, s.name.data.toList, UInt8.ofNat dn :: encS s, false⟩ := by rw [mkC, Hdn.out]
    have HMK := hide hmk
    have HNN := hide hnn
    obtain ⟨nsz, hnz⟩ : ∃ nsz, s.name.size = nsz := ⟨_, rfl⟩
    obtain ⟨fc, fw, hcv, hfw⟩ := conv_rule s.name
    have hW0z : w.heap.size ≤ w3.heap.size := Hb3.out.size
    have HP : Hid (∀ W1 A1 c1 A2 c2, Below w3.heap.size w3 W1 → RB W1 A1 nsz s.name.data.toList → RB W1 A2 (1 + el) (UInt8.ofNat dn :: encS s) → Calls Tryz.prog 56 #[.pointer (some ⟨db, 0, none⟩), .int .i64 0, .slice A1 nsz c1, .slice A2 (1 + el) c2] W1 (PutPost B0 db sb W1 (L ++ [⟨0, s.name.data.toList, UInt8.ofNat dn :: encS s, false⟩]))) := hide fun W1 A1 c1 A2 c2 hb hr1 hr2 =>
      dput_any B0 db sb _ 0 A1 A2 nsz c1 (1 + el) c2 _ _ W1 ((HD.out.d.below Hb3.out).below hb) hr1 hr2 (by omega) (by omega) (by omega) (by omega) (by omega) (by omega) (Nat.le_trans (Nat.le_trans hB0 hW0z) hb.size)
    have HA := hide (hfw w3.drew)
    have HB := hide (hfw (w3.alloc (.cells #[.int .u8 (dn : Int)] 5)).drew)
    have HF := hide hfw
    have hN := hide (((Below.refl w3.heap.size w3).alloc (Nat.le_refl _) (.cells #[.int .u8 (dn : Int)] 5)).drew)
    have hOB : Hid ((w3.alloc (.cells #[.int .u8 (dn : Int)] 5)).drew.ownsRow w3.heap.size 5 1 (.slice (some ⟨w3.heap.size, 0, none⟩) 1 1) 1 [.int .u8 (dn : Int)]) := hide (World.ownsRow_lit (base := w3.heap.size) w3 #[.int .u8 (dn : Int)] 1 (Nat.le_refl _) (by decide) rfl)
    have hcA := hide (r0.below (undrewd HA.out.2.1))
    have hcN := hide (r0.below hN.out)
    have hcB := hide (hcN.out.below HB.out.2.1)
    have g0 := r0
    have gA := hcA.out
    have gN := hcN.out
    have gB := hcB.out
    rw [hnz] at HA HB HF
    rw [hnz] at hnsz
    have hcv' := hcv
    rw [hnz] at hcv
    clear hfw hmk hnn hcv'
    go_wp2_with fail
    have HkA : Hid (RB ((fw w3.drew).alloc (.cells #[.int .u8 (dn : Int)] 5)) (some ⟨w3.heap.size, 0, none⟩) nsz s.name.data.toList) := hide (HA.out.1.alloc _)
    have hZA : w3.heap.size < (fw w3.drew).heap.size := HA.out.2.2.2
    have HkB : Hid (RB (fw (w3.alloc (.cells #[.int .u8 (dn : Int)] 5)).drew) (some ⟨w3.heap.size + 1, 0, none⟩) nsz s.name.data.toList) := hide (by have := HB.out.1; rwa [show (w3.alloc (.cells #[.int .u8 (dn : Int)] 5)).drew.heap.size = w3.heap.size + 1 by simp] at this)
    have hbs : [Value.int .u8 (dn : Int)] ++ bys (encS s) = bys (UInt8.ofNat dn :: encS s) := by
      rw [u8_small (dn : Nat) (by omega) (by omega)]; simp [bys]
    go_region_law
      ((first
        | (refine step_app (base := (fw w3.drew).heap.size) (n := 1) (xs := [.int .u8 (dn : Int)]) (news := bys (encS s)) (m := el) u8T (by rfl) (by rfl) (World.ownsRow_lit (base := (fw w3.drew).heap.size) (fw w3.drew) #[.int .u8 (dn : Int)] 1 (Nat.le_refl _) (by decide) rfl) (by rfl) ((He3.out.below (undrewd HA.out.2.1)).alloc _) (by rfl) (bys_one _) (by omega) (by omega) (by simp) ?_; intro A5 c5 w5 hown5 hb5 hg5 hat5; have hb35 : Below w3.heap.size w3 w5 := ((undrewd HA.out.2.1).alloc (undrewd HA.out.2.1).size _).trans (hb5.mono (Nat.le_of_lt hZA)); have hk5 := Rd.ne HkA.out hg5 (by intro h; simp [Value.ownBlock] at h; omega))
        | (refine step_app (base := w3.heap.size) (n := 1) (xs := [.int .u8 (dn : Int)]) (news := bys (encS s)) (m := el) u8T (by rfl) (by rfl) (own_below hOB.out HB.out.2.1) (by rfl) ((He3.out.below hN.out).below HB.out.2.1) (by rfl) (bys_one _) (by omega) (by omega) (Nat.le_trans hN.out.size HB.out.2.1.size) ?_; intro A5 c5 w5 hown5 hb5 hg5 hat5; have hb35 : Below w3.heap.size w3 w5 := (below_chain hN.out HB.out.2.1).trans hb5; have hk5 := Rd.far HkB.out hg5 (N := w3.heap.size + 1) (fun g hg => by simp [Value.ownBlock] at hg; omega) (Nat.le_refl _))
        | (refine step_app (base := w3.heap.size) (n := 1) (xs := [.int .u8 (dn : Int)]) (news := bys (encS s)) (m := el) u8T (by rfl) (by rfl) hOB.out (by rfl) (He3.out.below hN.out) (by rfl) (bys_one _) (by omega) (by omega) hN.out.size ?_; intro A5 c5 w5 hown5 hb5 hg5 hat5; have hb35 : Below w3.heap.size w3 w5 := hN.out.trans hb5; have g5 := r0.below hb35; have hf5 := HF.out w5; have hk5 := (Rd.of_own hown5).below hf5.2.1)
        | (refine step_call (f := 56) (vs := [.pointer (some ⟨db, 0, none⟩), .int .i64 0, .slice (some ⟨w3.heap.size, 0, none⟩) nsz (fc w3.drew), .slice A5 (1 + el) c5]) (R := PutPost B0 db sb w5 (L ++ [⟨0, s.name.data.toList, UInt8.ofNat dn :: encS s, false⟩])) (by rfl) (by rfl) ?_ (by simp [go_sem]) ?_ ?_; rfl; exact HP.out w5 _ _ _ _ hb35 hk5 (by rw [RB, ← hbs]; exact Rd.of_own hown5); rintro e w6 ⟨rfl, hd6, hu6⟩; refine ⟨_, rfl, ?_⟩; have hb36 := hb35)
        | (refine step_call (f := 56) (vs := [.pointer (some ⟨db, 0, none⟩), .int .i64 0, .slice (some ⟨w3.heap.size + 1, 0, none⟩) nsz (fc (w3.alloc (.cells #[.int .u8 (dn : Int)] 5)).drew), .slice A5 (1 + el) c5]) (R := PutPost B0 db sb w5 (L ++ [⟨0, s.name.data.toList, UInt8.ofNat dn :: encS s, false⟩])) (by rfl) (by rfl) ?_ (by simp [go_sem]) ?_ ?_; rfl; exact HP.out w5 _ _ _ _ hb35 hk5 (by rw [RB, ← hbs]; exact Rd.of_own hown5); rintro e w6 ⟨rfl, hd6, hu6⟩; refine ⟨_, rfl, ?_⟩; have hb36 := hb35)
        | (refine step_call (f := 56) (vs := [.pointer (some ⟨db, 0, none⟩), .int .i64 0, .slice (some ⟨w5.heap.size, 0, none⟩) nsz (fc w5), .slice A5 (1 + el) c5]) (R := PutPost B0 db sb (fw w5) (L ++ [⟨0, s.name.data.toList, UInt8.ofNat dn :: encS s, false⟩])) (by rfl) (by rfl) ?_ (by simp [go_sem]) ?_ ?_; rfl; exact HP.out (fw w5) _ _ _ _ (below_chain hb35 hf5.2.1) hf5.1 (by rw [RB, ← hbs]; exact hk5); rintro e w6 ⟨rfl, hd6, hu6⟩; refine ⟨_, rfl, ?_⟩; have hb36 := below_chain hb35 hf5.2.1)
        | fail))
    all_goals
      have HU6 := hide (((Upd.of_below Hb3.out HD.out.d.lt).trans (Upd.of_below hb36 (Nat.lt_of_lt_of_le HD.out.d.lt hW0z))).trans hu6)
      have HD6 := hide hd6
      have HT6 := hide (tabs_upd HD.out.tabs HD.out.d HU6.out HD.out.b0)
      clear hd6 hu6 hb36
      go_simp
      go_wp2_with fail
      go_ret
      refine ⟨L ++ [mkC D s], rfl, ?_, by simp, by rw [if_pos rfl, creX], HU6.out⟩
      rw [HMK.out]
      exact ⟨HD6.out, HMK.out ▸ HD.out.rep.make HNN.out, HMK.out ▸ HD.out.cnt.make s, HD.out.ok.make Hs.out (by rw [Hdn.out]; omega) HNN.out, (fun x hx => by
        rw [List.mem_append, List.mem_singleton] at hx
        rcases hx with hx | rfl
        · exact HD.out.small x hx
        simp only [List.length_cons]
        rw [← size_len, hnz, Hel.out]
        refine ⟨by omega, by omega, fun h => by cases h⟩), HT6.out, HD.out.b0⟩
def boundB (ahead : List UInt8) (v : V) : List UInt8 := (ahead ++ keyV v).take 58
set_option maxHeartbeats 1600000 in
set_option maxRecDepth 1000000 in
theorem bound_any (A : Option Addr) (n c : Nat) (ahead : List UInt8) (v : V) (hv : okV v) (w : World) (hA : RB w A n ahead) (hn : n ≤ 1000) (hT : Tabs w) (hl : (keyV v).length ≤ 100000000) :
    Calls Tryz.prog 69 #[.slice A n c, v.val] w fun e w' => ∃ A' m c', e = .returned (.slice A' m c') ∧ m ≤ 58 ∧ RB w' A' m (boundB ahead v) ∧ Below w.heap.size w w' := by
  obtain ⟨kl, hkl⟩ : ∃ kl, (keyV v).length = kl := ⟨_, rfl⟩
  obtain ⟨W0, hW0⟩ : ∃ W0, w.alloc (.cells #[.int .i64 v.k, .int .i64 v.n, .string v.s] 28) = W0 := ⟨_, rfl⟩
  have hb := (Below.refl w.heap.size w).alloc (Nat.le_refl _) (.cells #[.int .i64 v.k, .int .i64 v.n, .string v.s] 28)
  have m0 := C.new w #[.int .i64 v.k, .int .i64 v.n, .string v.s] 28 0 (v := .int .i64 v.k) rfl
  have m1 := C.new w #[.int .i64 v.k, .int .i64 v.n, .string v.s] 28 1 (v := .int .i64 v.n) rfl
  have m2 := C.new w #[.int .i64 v.k, .int .i64 v.n, .string v.s] 28 2 (v := .string v.s) rfl
  rw [hW0] at hb m0 m1 m2
  have HV : Hid (∀ W, Below W0.heap.size W0 W → Calls Tryz.prog 115 #[v.val] W fun e w' => ∃ A c, e = .returned (.slice A kl c) ∧ w'.ownsRow W.heap.size 5 1 (.slice A kl c) kl (bys (keyV v)) ∧ Below W.heap.size W w') := hide fun W hb2 => by
    have := value_any v hv W (hT.below (below_then hb hb.size hb2))
    rw [hkl] at this
    exact this
  have HC : Hid (∀ W, Below W0.heap.size W0 W → Calls Tryz.prog 70 #[.slice A n c] W fun e w' => ∃ v, e = .returned v ∧ w'.ownsRow W.heap.size 5 1 v n (bys ahead) ∧ Below W.heap.size W w') := hide fun W hb2 =>
    bclone_any A n c ahead W (hA.below (below_then hb hb.size hb2)) (by omega)
  have Hb := hide hb
  rw [hkl] at hl
  have Hkl := hide hkl
  have Hln := hide hA.len
  clear hkl hT hb hA
  go_enter Tryz.func69, Tryz.ntmps69
  go_wp2_with fail
  clear hW0
  have hN := hide ((Below.refl W0.heap.size W0).drew)
  have g0 := m0.below hN.out
  have g1 := m1.below hN.out
  have g2 := m2.below hN.out
  go_region_law
    ((first
      | (refine step_call (f := 70) (vs := [.slice A n c]) (R := fun e w' => ∃ v, e = .returned v ∧ w'.ownsRow W0.drew.heap.size 5 1 v n (bys ahead) ∧ Below W0.drew.heap.size W0.drew w') (by rfl) (by rfl) ?_ (by simp [go_sem]) ?_ ?_; rfl; exact HC.out W0.drew hN.out; rintro e w1 ⟨v1, rfl, hown1, hb1⟩; refine ⟨_, rfl, ?_⟩; have hb1 := undrewd hb1; have p0 := m0.below hb1; have p1 := m1.below hb1; have p2 := m2.below hb1)
      | (refine step_call (f := 115) (vs := [v.val]) (R := fun e w' => ∃ A c, e = .returned (.slice A kl c) ∧ w'.ownsRow w1.heap.size 5 1 (.slice A kl c) kl (bys (keyV v)) ∧ Below w1.heap.size w1 w') (by rfl) (by rfl) ?_ (by simp [go_sem]) ?_ ?_; rfl; exact HV.out w1 hb1; rintro e w2 ⟨A2, c2, rfl, hown2, hb2⟩; refine ⟨_, rfl, ?_⟩)
      | (refine step_app (base := W0.heap.size) (n := n) (xs := bys ahead) (news := bys (keyV v)) (m := kl) u8T (by rfl) (by rfl) (own_below hown1 hb2) (by rfl) (Rd.of_own hown2) (by rfl) (bys_one _) (by omega) (by omega) (below_chain hb1 hb2).size ?_; intro A5 c5 w5 hown5 hb5 hg5 hat5)
      | fail))
  all_goals
    have HB5 := hide ((below_then Hb.out Hb.out.size (below_chain hb1 hb2)).trans (hb5.mono Hb.out.size))
    have hR5 := Rd.of_own hown5
    have hcap : n + kl ≤ c5 := by
      obtain ⟨A9, c9, h9, h10, _⟩ := own_form hown5
      injection h9 with _ _ h9
      omega
    have HR5 := hide hR5
    clear hown1 hb1 hown2 hb2 hown5 hb5 hg5 hat5 hR5 p0 p1 p2
    go_simp
    go_wp2_with fail
    go_wp2_with fail
    go_ret
    refine ⟨A5, _, c5, rfl, by omega, ?_, HB5.out⟩
    have hr : RB w5 A5 (n + kl) (ahead ++ keyV v) := by rw [RB, bys_append]; exact HR5.out
    have hr2 : RB w5 A5 (n + kl) (boundB ahead v ++ (ahead ++ keyV v).drop 58) := by rw [boundB, List.take_append_drop]; exact hr
    refine RB.take_ hr2 _ ?_
    rw [boundB, List.length_take, List.length_append, Hkl.out, Hln.out]
    omega
def aheadB (i : Nat) (c : Int) : List UInt8 := if c = 0 then [UInt8.ofNat i] else [UInt8.ofNat i, UInt8.ofNat c.toNat]
def toB (a : List UInt8) (hi : V) : List UInt8 := if hi.k = 0 then a ++ [255] else boundB a hi
def valsOf (c : Int) (r : List V) : List V := if c = 0 then [col r 0] else [col r c.toNat, col r 0]
def scanK (i : Nat) (c : Int) (r : List V) : List UInt8 := aheadB i c ++ keyL (valsOf c r)
def scanE (T : Tb) (c : Int) (lo hi : V) (limit : Int) : Int :=
  if c = 0 ∨ T.s.ixs.any (fun x => decide (x.col = c)) = true then (if rightV lo ≠ 0 ∨ rightV hi ≠ 0 then 62 else if limit < 1 ∨ 4 < limit then 1 else 0) else 65
structure ScanL (T : Tb) (i : Nat) (c : Int) (lo hi : V) (R : List (List V)) : Prop where
  srt : R.Pairwise fun a b => cmpB (scanK i c a) (scanK i c b) < 0
  mem : ∀ r, r ∈ R ↔ r ∈ T.rows ∧ inB (boundB (aheadB i c) lo) (toB (aheadB i c) hi) (scanK i c r)
theorem pre_of : ∀ (p a b k : List UInt8), ¬ cmpB k (p ++ a) < 0 → cmpB k (p ++ b) < 0 → ∃ t, k = p ++ t
  | [], _, _, k, _, _ => ⟨k, rfl⟩
  | x :: p, _, _, [], h, _ => absurd (by simp [cmpB]) h
  | x :: p, a, b, y :: k, h1, h2 => by
    simp only [List.cons_append, cmpB] at h1 h2
    rcases u8_tri y x with h | h | h
    · simp [h] at h1
    · subst h
      simp only [UInt8.lt_irrefl, if_false] at h1 h2
      obtain ⟨t, rfl⟩ := pre_of p a b k h1 h2
      exact ⟨t, rfl⟩
    simp [h, u8_asymm h] at h2
theorem aheadB_len (i : Nat) (c : Int) : (aheadB i c).length ≤ 2 := by unfold aheadB; split <;> simp
theorem boundB_pre (i : Nat) (c : Int) (v : V) : ∃ t, boundB (aheadB i c) v = aheadB i c ++ t := by
  have := aheadB_len i c
  refine ⟨(keyV v).take (58 - (aheadB i c).length), ?_⟩
  rw [boundB, List.take_append, List.take_of_length_le (by omega)]
theorem toB_pre (i : Nat) (c : Int) (v : V) : ∃ t, toB (aheadB i c) v = aheadB i c ++ t := by
  unfold toB
  split
  · exact ⟨_, rfl⟩
  exact boundB_pre i c v
theorem inB_ahead {i : Nat} {c : Int} {lo hi : V} {k : List UInt8} (h : inB (boundB (aheadB i c) lo) (toB (aheadB i c) hi) k) : ∃ t, k = aheadB i c ++ t := by
  obtain ⟨a, ha⟩ := boundB_pre i c lo
  obtain ⟨b, hb⟩ := toB_pre i c hi
  rw [ha, hb] at h
  rcases h.2 with h2 | h2
  · unfold aheadB at h2; split at h2 <;> simp at h2
  exact pre_of _ _ _ _ h.1 h2
theorem scanK_zero (i : Nat) (r : List V) : scanK i 0 r = rowK i (col r 0) := by simp [scanK, aheadB, valsOf, keyL, rowK]
theorem scanK_ix (i : Nat) (x : Ix) (r : List V) (h : x.col ≠ 0) : scanK i x.col r = entK i x r := by simp [scanK, aheadB, valsOf, keyL, entK, h]
section
variable {L : List Chg} {D : List Tb} {i : Nat} {T : Tb} {c : Int} {lo hi : V}
theorem scan_of (h : Rep L D) (ho : Ok D) (hT : D[i]? = some T) {sp : Int} (hc : (c = 0 ∧ sp = 1) ∨ (c ≠ 0 ∧ sp = 2 ∧ ∃ x ∈ T.s.ixs, x.col = c)) {k v : List UInt8} (hg : getC L sp k = some v) (hb : inB (boundB (aheadB i c) lo) (toB (aheadB i c) hi) k) : ∃ r ∈ T.rows, k = scanK i c r := by
  have hi4 := ho.lt4 hT
  obtain ⟨t, ht⟩ := inB_ahead hb
  rcases hc with ⟨rfl, rfl⟩ | ⟨hc, rfl, x, hx, rfl⟩
  · obtain ⟨j, U, hU, r, hr, rfl, _⟩ := (h.r k v).1 hg
    have hj := ho.lt4 hU
    rw [rowK, aheadB, if_pos rfl, List.singleton_append] at ht
    injection ht with h1 h2
    have e1 := u8_id (by omega) (by omega) h1
    subst e1
    rw [hT] at hU
    obtain rfl := Option.some.inj hU
    exact ⟨r, hr, (scanK_zero _ _).symm⟩
  obtain ⟨j, U, hU, r, hr, y, hy, rfl, _⟩ := (h.e k v).1 hg
  have hj := ho.lt4 hU
  have hyf := ixs_facts (ho.right j U hU) y hy
  have hxf := ixs_facts (ho.right i T hT) x hx
  rw [entK, aheadB, if_neg hc] at ht
  injection ht with h1 ht
  injection ht with h2 _
  have e1 := u8_id (by omega) (by omega) h1
  have e2 := u8_id (by omega) (by omega) h2
  subst e1
  rw [hT] at hU
  obtain rfl := Option.some.inj hU
  refine ⟨r, hr, ?_⟩
  rw [scanK_ix _ _ _ hc, entK, entK, e2]
theorem scan_has (h : Rep L D) (hT : D[i]? = some T) {sp : Int} (hc : (c = 0 ∧ sp = 1) ∨ (c ≠ 0 ∧ sp = 2 ∧ ∃ x ∈ T.s.ixs, x.col = c)) {r : List V} (hr : r ∈ T.rows) : ∃ v, getC L sp (scanK i c r) = some v := by
  rcases hc with ⟨rfl, rfl⟩ | ⟨hc, rfl, x, hx, rfl⟩
  · exact ⟨keyL r, (h.r _ _).2 ⟨i, T, hT, r, hr, scanK_zero _ _, rfl⟩⟩
  exact ⟨[], (h.e _ _).2 ⟨i, T, hT, r, hr, x, hx, scanK_ix _ _ _ hc, rfl⟩⟩
theorem scanK_inj (ho : Ok D) (hT : D[i]? = some T) {r u : List V} (hr : r ∈ T.rows) (hu : u ∈ T.rows) (he : scanK i c r = scanK i c u) : r = u := by
  have h0 : col r 0 = col u 0 := by
    have h1 := List.append_cancel_left he
    have a0 := ho.val hT hr
    have b0 := ho.val hT hu
    unfold valsOf at h1
    split at h1
    · simp only [keyL, List.flatMap_cons, List.flatMap_nil] at h1
      exact (keyV_free (a0 0) (b0 0) h1).1
    simp only [keyL, List.flatMap_cons, List.flatMap_nil] at h1
    exact (keyV_free (a0 0) (b0 0) (keyV_free (a0 _) (b0 _) h1).2).1
  have hp := ho.keys i T hT
  rcases List.mem_iff_getElem.1 hr with ⟨a, ha, rfl⟩
  rcases List.mem_iff_getElem.1 hu with ⟨b, hb, rfl⟩
  rw [List.pairwise_iff_getElem] at hp
  rcases Nat.lt_trichotomy a b with h | h | h
  · exact absurd h0 (hp a b ha hb h)
  · subst h; rfl
  exact absurd h0.symm (hp b a hb ha h)
theorem map_exists {α β γ : Type} {f : α → γ} {g : β → γ} {P : β → Prop} : ∀ (l : List α), (∀ p ∈ l, ∃ r, P r ∧ f p = g r) → ∃ R : List β, l.map f = R.map g ∧ ∀ r ∈ R, P r
  | [], _ => ⟨[], rfl, by simp⟩
  | p :: l, h => by
    obtain ⟨r, hr, e⟩ := h p (by simp)
    obtain ⟨R, hR, hP⟩ := map_exists l fun q hq => h q (by simp [hq])
    exact ⟨r :: R, by simp [e, hR], fun x hx => (List.mem_cons.1 hx).elim (fun e => e ▸ hr) (hP x)⟩
theorem scan_rows (h : Rep L D) (ho : Ok D) (hT : D[i]? = some T) {sp : Int} (hc : (c = 0 ∧ sp = 1) ∨ (c ≠ 0 ∧ sp = 2 ∧ ∃ x ∈ T.s.ixs, x.col = c)) {l : List (List UInt8 × List UInt8)} (hl : RangeL L sp (boundB (aheadB i c) lo) (toB (aheadB i c) hi) l) : ∃ R, ScanL T i c lo hi R ∧ l.map (·.1) = R.map (scanK i c) := by
  obtain ⟨R, hR, hP⟩ := map_exists (f := fun p : List UInt8 × List UInt8 => p.1) (g := scanK i c) (P := fun r => r ∈ T.rows ∧ inB (boundB (aheadB i c) lo) (toB (aheadB i c) hi) (scanK i c r)) l fun p hp => by
    obtain ⟨k, v⟩ := p
    obtain ⟨hg, hb⟩ := (hl.mem k v).1 hp
    obtain ⟨r, hr, rfl⟩ := scan_of h ho hT hc hg hb
    exact ⟨r, ⟨hr, hb⟩, rfl⟩
  refine ⟨R, ⟨?_, fun r => ⟨hP r, ?_⟩⟩, hR⟩
  · have := hl.srt
    have h2 : (l.map (·.1)).Pairwise fun a b => cmpB a b < 0 := List.pairwise_map.2 this
    rw [hR, List.pairwise_map] at h2
    exact h2
  rintro ⟨hr, hb⟩
  obtain ⟨v, hv⟩ := scan_has h hT hc hr
  have hm : (scanK i c r, v) ∈ l := (hl.mem _ _).2 ⟨hv, hb⟩
  have h3 : scanK i c r ∈ l.map (·.1) := List.mem_map.2 ⟨_, hm, rfl⟩
  rw [hR] at h3
  obtain ⟨u, hu, e⟩ := List.mem_map.1 h3
  rw [← scanK_inj ho hT (hP u hu).1 hr e]
  exact hu
theorem wasT_mem (ho : Ok D) (hT : D[i]? = some T) {r : List V} (hr : r ∈ T.rows) : wasT T (col r 0) = some r := by
  cases hw : wasT T (col r 0) with
  | none => exact absurd rfl (wasT_none hw r hr)
  | some u =>
    have h := wasT_some hw
    have : u = r := scanK_inj (c := 0) ho hT h.1 hr (by rw [scanK_zero, scanK_zero, h.2])
    rw [this]
end
set_option maxRecDepth 1000000 in
theorem scan_fn (x : Ix) (b : Nat) (c : Int) (w : World) (hc : C w b 0 (.int .i64 c)) : Calls Tryz.prog 67 (#[Ix.val x] ++ #[.pointer (some ⟨b, 0, none⟩)]) w fun e w' => e = .returned (.bool (decide (x.col = c))) ∧ Below w.heap.size w w' := by
  have hal := (Below.refl w.heap.size w).alloc (Nat.le_refl _) (.cells #[.int .i64 x.col, .bool x.uniq] 68)
  have q := hc.below hal
  have m0 := C.new w #[.int .i64 x.col, .bool x.uniq] 68 0 (v := .int .i64 x.col) rfl
  show Calls Tryz.prog 67 #[.agg #[.int .i64 x.col, .bool x.uniq], .pointer (some ⟨b, 0, none⟩)] w _
  go_enter Tryz.func67, Tryz.ntmps67
  go_wp2_with fail
  go_ret
  exact ⟨rfl, hal⟩
theorem wp_lit2 {P : Program} {W : World} {ops : Array Oper} {rest : List Oper} {o : Oper} {a : Act} {Q : Exit → Act → World → Prop} {t e : TypeId} {size bytes : Nat} (T : SlT P t e size bytes) (hgd : o.guard = none) {s x : Operand}
    (ho : o.op = .call { callee := .builtin .append, args := #[s, x], argTypes := #[t, t] })
    {base : Nat} {v : Value} {n : Nat} {xs : List Value} (hown : W.ownsRow base e size v n xs) (hs : a.eval s = v)
    {cs : Array Value} {g m : Nat} (hx : a.eval x = .slice (some ⟨g, 0, none⟩) m m) (hg : g = W.heap.size) (hcs : cs.size = m * size) (h1 : ∀ u ∈ cs.toList, u.oneCell' = true)
    (h63 : n + m ≤ 4294967296) (hbytes : bytes ≤ 32768) (hbase : base ≤ W.heap.size)
    (h : ∀ A' c' w', w'.ownsRow base e size (.slice A' (n + m) c') (n + m) (xs ++ cs.toList) → Below base W w' → W.grownBy w' v.ownBlock → ((Value.slice A' (n + m) c').ownBlock = v.ownBlock ∨ (Value.slice A' (n + m) c').ownBlock = some (W.heap.size + 1)) → wpList P ops Q rest (a.put o.dst (.slice A' (n + m) c')) w') :
    wpList P ops Q (o :: rest) a (W.alloc (.cells cs e)) :=
  wp_app T hgd ho (hown.alloc _) hs (Rd.lit W cs e size m g hg hcs) hx h1 h63 hbytes (by simp; omega) fun A' c' w' h2 h3 h4 h5 =>
    h A' c' w' h2 (((Below.refl _ _).alloc hbase _).trans h3) ((World.grownBy_alloc W _ _).trans h4) (by simpa using h5)
theorem own_bnd {w : World} {base : Nat} {e : TypeId} {k n : Nat} {v : Value} {xs : List Value} (h : w.ownsRow base e k v n xs) (g : Nat) (hg : v.ownBlock = some g) : base ≤ g ∧ g < w.heap.size := by
  rcases h.2 with ⟨h0, _⟩ | ⟨g', cap, cur, h0, h1, h2, _⟩
  · rw [h0] at hg; cases hg
  rw [h0] at hg
  injection hg with hg
  subst hg
  exact ⟨h1, (Array.getElem?_eq_some_iff.1 h2).1⟩
theorem own_ptr {w : World} {base : Nat} {e : TypeId} {k n : Nat} {A : Option Addr} {c : Nat} {xs : List Value} (h : w.ownsRow base e k (.slice A n c) n xs) (hn : 0 < n) : ∃ g, A = some ⟨g, 0, none⟩ ∧ base ≤ g ∧ g < w.heap.size := by
  rcases h.2 with ⟨_, h0⟩ | ⟨g', cap, cur, h0, h1, h2, _⟩
  · omega
  injection h0 with h0
  exact ⟨g', h0, h1, (Array.getElem?_eq_some_iff.1 h2).1⟩
theorem rowsT : SlT Tryz.prog 26 33 1 24 := ⟨by
  obtain ⟨i, hi, hz0, hz1, hz2⟩ := info_parts (P := Tryz.prog) (e := 33) (z := .slice none 0 0) (size := 1) (bytes := 24) (by kernel_rfl)
  exact ⟨i, _, Tryz.underlying26, hi, hz0, hz1, hz2, rfl, by omega⟩⟩
theorem eg67 : ∀ args w, (callFunc 67 args).run Tryz.prog w = .ok (.enter 67 args) w := enters_of Tryz.func67 (by kernel_rfl) rfl
def RowsAt (base : Nat) (w : World) (A : Option Addr) (n : Nat) (R : List (List V)) : Prop := ∃ sl : List Value, (Rd w 1 A n sl ∧ ∃ cl, w.ownsRow base 33 1 (.slice A n cl) n sl) ∧ R.length = n ∧ ∀ (j : Nat) (r : List V), R[j]? = some r → ∃ Aj cj, sl[j]? = some (.slice Aj r.length cj) ∧ w.ownsRow base 28 3 (.slice Aj r.length cj) r.length (rowCells r)
def ScanPost (D : List Tb) (nm : ByteArray) (c : Int) (lo hi : V) (limit : Int) (w : World) (e : Ending) (w' : World) : Prop := (match findT D nm 0 with
  | none => e = .returned (.tuple #[.slice none 0 0, .int .i64 60])
  | some (i, T) => if scanE T c lo hi limit = 0 then ∃ R A c', ScanL T i c lo hi R ∧ e = .returned (.tuple #[.slice A (min R.length limit.toNat) c', .int .i64 0]) ∧ RowsAt w.heap.size w' A (min R.length limit.toNat) (R.take limit.toNat)
    else e = .returned (.tuple #[.slice none 0 0, .int .i64 (scanE T c lo hi limit)])) ∧ Below w.heap.size w w'
set_option maxHeartbeats 3200000 in
set_option maxRecDepth 1000000 in
theorem scan_none (B0 db sb : Nat) (L : List Chg) (D : List Tb) (nm : ByteArray) (c : Int) (lo hi : V) (limit : Int) (w : World) (hd : DbAt B0 w db sb L D) (hnm : nm.size ≤ 9223372036854775807) (hf : findT D nm 0 = none) :
    Calls Tryz.prog 20 #[.pointer (some ⟨db, 0, none⟩), .string nm, .int .i64 c, lo.val, hi.val, .int .i64 limit] w (ScanPost D nm c lo hi limit w) := by
  have hal0 := (Below.refl w.heap.size w).alloc (Nat.le_refl _) (.cells #[.int .i64 c] 3)
  have hal1 := hal0.alloc hal0.size (.cells #[.int .i64 lo.k, .int .i64 lo.n, .string lo.s] 28)
  have hal2 := hal1.alloc hal1.size (.cells #[.int .i64 hi.k, .int .i64 hi.n, .string hi.s] 28)
  obtain ⟨W0, hW0⟩ : ∃ W0, ((w.alloc (.cells #[.int .i64 c] 3)).alloc (.cells #[.int .i64 lo.k, .int .i64 lo.n, .string lo.s] 28)).alloc (.cells #[.int .i64 hi.k, .int .i64 hi.n, .string hi.s] 28) = W0 := ⟨_, rfl⟩
  rw [hW0] at hal2
  have hfn := find_none_ B0 db sb L D nm W0 (hd.below hal2) hnm hf
  have Hfn := hide hfn
  have Hal := hide hal2
  have Hf := hide hf
  clear hfn hd hal0 hal1 hal2 hf
  go_enter Tryz.func20, Tryz.ntmps20
  go_wp2_with fail
  refine Hfn.out.mono ?_
  rintro e w1 ⟨rfl, hb1⟩
  have Hb1 := hide (below_then Hal.out Hal.out.size hb1)
  clear hb1 Hfn hW0
  unfold zTab
  go_wp2_with fail
  go_ret2
  refine ⟨?_, Hb1.out.alloc Hb1.out.size _⟩
  rw [Hf.out]
  exact rfl
end Go.Proofs.YtekokogmnhlchaaGreatDoor
