import Derived.Test.YtekokogmnhlchaaGreatDoorD7
import Derived.Test.YtekokogmnhlchaaGreatDoorA1
import Derived.Test.YtekokogmnhlchaaGreatDoorD3
import Derived.Test.YtekokogmnhlchaaGreatDoorD9
import Derived.Test.YtekokogmnhlchaaGreatDoorB5
import Derived.Test.YtekokogmnhlchaaGreatDoorD1
import Derived.OrdersHeld
import Derived.Deep.RegionHeld
import Derived.Deep.CutBlock
set_option linter.unusedSimpArgs false
set_option linter.unusedVariables false
namespace Go.Proofs.YtekokogmnhlchaaGreatDoor
open Go.RowKit
/-! ## What an index tells -/
section
variable {D : List Tb} {i : Nat} {T : Tb} {c : Int}
theorem scanK_form (i : Nat) (c : Int) (r : List V) : ∃ t, scanK i c r = aheadB i c ++ (keyV (col r c.toNat) ++ t) := by
  by_cases hc : c = 0
  · subst hc; exact ⟨[], by simp [scanK, valsOf, keyL]⟩
  · exact ⟨keyV (col r 0), by simp [scanK, valsOf, keyL, hc]⟩
theorem bound_fit2 {v : V} (hl : (keyV v).length ≤ 28) : boundB (aheadB i c) v = aheadB i c ++ keyV v := by
  have : boundB (aheadB i c) v = (aheadB i c ++ keyV v).take 58 := rfl
  rw [this, List.take_of_length_le]
  have := aheadB_len i c
  rw [List.length_append]; omega
theorem idx_in (ho : Ok D) (hT : D[i]? = some T) {u : List V} (hu : u ∈ T.rows) {S : List (List V)} (hS : ScanL T i c (col u c.toNat) nothing S) {r : List V} (hr : r ∈ T.rows) (he : col r c.toNat = col u c.toNat) : r ∈ S := by
  have hfu := ho.fit i T hT u hu
  refine (hS.mem r).2 ⟨hr, ?_, .inr ?_⟩
  · rw [bound_fit2 (hfu.col (ho.right i T hT) _).2]
    obtain ⟨t, ht⟩ := scanK_form i c r
    rw [ht, he, cmpB_append]
    have h1 := cmpB_pre (keyV (col u c.toNat)) t
    have h2 := cmpB_swap (keyV (col u c.toNat)) (keyV (col u c.toNat) ++ t)
    omega
  · have h1 : toB (aheadB i c) nothing = aheadB i c ++ [255] := rfl
    obtain ⟨t, ht⟩ := scanK_form i c r
    rw [h1, ht, cmpB_append]
    exact keyV_lt_255 _ (ho.val hT hr _).1 _ _
theorem idx_first (ho : Ok D) (hT : D[i]? = some T) {u : List V} (hu : u ∈ T.rows) {S : List (List V)} (hS : ScanL T i c (col u c.toNat) nothing S) {r : List V} (hr : S[0]? = some r) : col r c.toNat = col u c.toNat := by
  obtain ⟨h0, rfl⟩ := List.getElem?_eq_some_iff.1 hr
  have hrS := List.getElem_mem h0
  obtain ⟨hrT, hb, _⟩ := (hS.mem _).1 hrS
  rw [bound_fit2 ((ho.fit i T hT u hu).col (ho.right i T hT) _).2] at hb
  have huS := idx_in ho hT hu hS hu rfl
  have hle : cmpB (scanK i c S[0]) (scanK i c u) ≤ 0 := by
    obtain ⟨j, hj, rfl⟩ := List.getElem_of_mem huS
    rcases Nat.eq_zero_or_pos j with rfl | hp
    · rw [cmpB_refl]; exact Int.le_refl _
    · have h1 := hS.srt
      rw [List.pairwise_iff_getElem] at h1
      exact Int.le_of_lt (h1 0 j h0 hj hp)
  obtain ⟨t, ht⟩ := scanK_form i c S[0]
  obtain ⟨t', ht'⟩ := scanK_form i c u
  rw [ht, cmpB_append] at hb
  rw [ht, ht', cmpB_append] at hle
  have o1 := ho.val hT hrT c.toNat
  have o2 := ho.val hT hu c.toNat
  rcases cmpV_three (col S[0] c.toNat) (col u c.toNat) with h | h | h
  · have := keyV_lt o1 o2 h t []
    rw [List.append_nil] at this
    omega
  · exact cmpV_zero o1 o2 h
  · have h2 := cmpV_swap (col S[0] c.toNat) (col u c.toNat)
    rw [h] at h2
    have h3 := keyV_lt o2 o1 h2 t' t
    have h4 := cmpB_swap (keyV (col S[0] c.toNat) ++ t) (keyV (col u c.toNat) ++ t')
    omega
/-- How many rows have a value. -/
def cntV (R : List (List V)) (k : Nat) (v : V) : Nat := (R.filter fun r => decide (col r k = v)).length
theorem cntV_nil (k : Nat) (v : V) : cntV [] k v = 0 := rfl
theorem cntV_next {R : List (List V)} {q : Nat} (hq : q < R.length) (k : Nat) (v : V) : cntV (R.take (q + 1)) k v = cntV (R.take q) k v + if col R[q] k = v then 1 else 0 := by
  rw [List.take_succ_eq_append_getElem hq, cntV, List.filter_append, List.length_append, ← cntV]
  congr 1
  by_cases h : col R[q] k = v
  · rw [List.filter_cons_of_pos (by simpa using h), if_pos h]; rfl
  · rw [List.filter_cons_of_neg (by simpa using h), if_neg h]; rfl
theorem cntV_take (R : List (List V)) (q k : Nat) (v : V) : cntV (R.take q) k v ≤ q := by
  have h1 := List.length_filter_le (fun r => decide (col r k = v)) (R.take q)
  have h2 : (R.take q).length ≤ q := by rw [List.length_take]; omega
  exact Nat.le_trans h1 h2
theorem idx_cnt (ho : Ok D) (hT : D[i]? = some T) {R : List (List V)} (hR : WalkL T i R) {u : List V} (hu : u ∈ T.rows) {S : List (List V)} (hS : ScanL T i c (col u c.toNat) nothing S) : cntV R c.toNat (col u c.toNat) ≤ S.length := by
  refine nodup_len (hR.nodup.sublist List.filter_sublist) fun r hr => ?_
  rw [List.mem_filter, decide_eq_true_eq] at hr
  exact idx_in ho hT hu hS ((hR.mem r).1 hr.1) hr.2
theorem idx_pos (ho : Ok D) (hT : D[i]? = some T) {u : List V} (hu : u ∈ T.rows) {S : List (List V)} (hS : ScanL T i c (col u c.toNat) nothing S) : 0 < S.length := List.length_pos_of_mem (idx_in ho hT hu hS hu rfl)
theorem le_one_of {α : Type} : ∀ {l : List α}, l.Nodup → (∀ a ∈ l, ∀ b ∈ l, a = b) → l.length ≤ 1
  | [], _, _ => by simp
  | [_], _, _ => by simp
  | a :: b :: l, h, he => by
    have := he a (by simp) b (by simp)
    subst this
    simp at h
theorem idx_uniq (ho : Ok D) (hT : D[i]? = some T) (hq : UqT T) {R : List (List V)} (hR : WalkL T i R) {x : Ix} (hx : x ∈ T.s.ixs) (hxu : x.uniq = true) {u : List V} (hk : (col u x.col.toNat).k ≠ 0) : cntV R x.col.toNat (col u x.col.toNat) ≤ 1 := by
  refine le_one_of (hR.nodup.sublist List.filter_sublist) fun a ha b hb => ?_
  rw [List.mem_filter, decide_eq_true_eq] at ha hb
  have h1 := hq x hx hxu a ((hR.mem a).1 ha.1) b ((hR.mem b).1 hb.1) (by rw [ha.2]; exact hk) (by rw [ha.2, hb.2])
  refine scanK_inj (c := 0) ho hT ((hR.mem a).1 ha.1) ((hR.mem b).1 hb.1) ?_
  rw [scanK_zero, scanK_zero, h1]
theorem idx_lt (ho : Ok D) (hT : D[i]? = some T) {lo hi : V} {S : List (List V)} (hS : ScanL T i c lo hi S) {a b : Nat} (ha : a < S.length) (hb : b < S.length) (hab : a < b) :
    cmpVs [col S[a] c.toNat, col S[a] 0] [col S[b] c.toNat, col S[b] 0] = -1 := by
  have h1 := hS.srt
  rw [List.pairwise_iff_getElem] at h1
  have h2 := scanK_lt (ho.val hT ((hS.mem _).1 (List.getElem_mem ha)).1) (ho.val hT ((hS.mem _).1 (List.getElem_mem hb)).1) (h1 a b ha hb hab)
  by_cases hc : c = 0
  · subst hc
    simp only [valsOf, if_true] at h2
    show cmpVs [col S[a] 0, col S[a] 0] [col S[b] 0, col S[b] 0] = -1
    simp only [cmpVs] at h2 ⊢
    by_cases hz : cmpV (col S[a] 0) (col S[b] 0) = 0
    · rw [if_pos hz] at h2; omega
    · rw [if_neg hz] at h2 ⊢; exact h2
  · simpa [valsOf, hc] using h2
end
end Go.Proofs.YtekokogmnhlchaaGreatDoor
namespace Go.Proofs.YtekokogmnhlchaaGreatDoor
open Go.RowKit
/-! ## A region that draws its order, whose last operation writes what the others read: the condition S is asked behind all operations but the last -/
section
variable {P : Program} {ops : Array Oper} {Q : Exit → Act → World → Prop} {S : World → Prop} {L : Nat}
def wpAnyE (P : Program) (ops : Array Oper) (Q : Exit → Act → World → Prop) (S : World → Prop) (L : Nat) : Nat → Array Bool → Act → World → Prop
  | 0, listed, a, w => Region.ready .any ops listed = [] ∧ Q .normal a w
  | n + 1, listed, a, w => (Region.ready .any ops listed = [] → Q .normal a w) ∧
    ∀ i ∈ Region.ready .any ops listed, wpOp P ops Q i (fun a' w' => (i = L ∨ S w') ∧ wpAnyE P ops Q S L n (listed.setIfInBounds i true) a' w') a w
theorem wpAny_of_E : ∀ (n : Nat) (listed : Array Bool) (a : Act) (w : World), wpAnyE P ops Q S L n listed a w → wpAny P .any ops Q n listed a w
  | 0, _, _, _, h => h
  | n + 1, _, _, _, h => ⟨h.1, fun i hi => wpOp_mono (fun a' w' h' => wpAny_of_E n _ a' w' h'.2) (h.2 i hi)⟩
/-- The last one waits for this one. -/
def waitB (ops : Array Oper) (L i : Nat) : Bool := match ops[L]? with
  | some o => o.after.any fun e => Region.binds .any e && e.on == i
  | none => false
theorem last_waits {i : Nat} (h : waitB ops L i = true) {listed : Array Bool} (hi : i ∈ Region.ready .any ops listed) (hj : L ∈ Region.ready .any ops listed) : False := by
  obtain ⟨hin, oi, hoi, _⟩ := mem_ready.1 hi
  obtain ⟨_, oL, hoL, hall⟩ := mem_ready.1 hj
  rw [waitB, hoL] at h
  obtain ⟨e, he, hb⟩ := Array.any_eq_true'.1 h
  simp only [Bool.and_eq_true, beq_iff_eq] at hb
  have h2 := hall e he hb.1
  rw [hb.2] at h2
  rcases Nat.lt_or_ge i listed.size with h' | h'
  · simp [h'] at hin h2; rw [hin] at h2; cases h2
  · simp [Array.getElem?_eq_none h'] at h2
theorem wpAnyE_first {i : Nat} (hL : waitB ops L i = true) {oi : Oper} {v : Value} (hi : ops[i]? = some oi) (hsel : ∀ (j : Nat) (o : Oper) cs b, ops[j]? = some o → o.op ≠ .select cs b)
    (hQ : ∀ c a w, Q (.panic c) (a.put oi.dst v) w → Q (.panic c) a w) (n : Nat) : ∀ (listed : Array Bool) (a : Act) (w : World),
      (∀ j oj, ops[j]? = some oj → j ≠ i → listed.getD j true = false → (∀ e ∈ oj.after, Region.binds .any e = true → e.on ≠ i) → oi.apart ops oj = true) →
      i ∈ Region.ready .any ops listed → YieldsIf P ops S oi v a → S w →
      wpAnyE P ops Q S L n (listed.setIfInBounds i true) (a.put oi.dst v) w → wpAnyE P ops Q S L (n + 1) listed a w := by
  induction n with
  | zero =>
    intro listed a w _ hr hy hS H
    refine ⟨fun h => absurd hr (by rw [h]; exact List.not_mem_nil), fun j hj => ?_⟩
    by_cases hji : j = i
    · subst hji
      exact hy.wpOp hi hS ⟨.inr hS, H⟩
    · have := ready_mono hj hji
      rw [H.1] at this
      exact absurd this List.not_mem_nil
  | succ n ih =>
    intro listed a w hfree hr hy hS H
    refine ⟨fun h => absurd hr (by rw [h]; exact List.not_mem_nil), fun j hj => ?_⟩
    by_cases hji : j = i
    · subst hji
      exact hy.wpOp hi hS ⟨.inr hS, H⟩
    · obtain ⟨hjun, oj, hoj, hall⟩ := mem_ready.1 hj
      have hnot : ∀ e ∈ oj.after, Region.binds .any e = true → e.on ≠ i := fun e he hb heq => by
        have h1 := hall e he hb
        have h0 := (mem_ready.1 hr).1
        rw [heq] at h1
        rcases Nat.lt_or_ge i listed.size with h' | h'
        · simp [h'] at h0 h1; rw [h0] at h1; cases h1
        · simp [Array.getElem?_eq_none h'] at h1
      have hjL : j ≠ L := fun e => last_waits hL hr (e ▸ hj)
      refine wpOp_mono (fun a' w' h3 => ?_) (wpOp_putIf hoj (hfree j oj hoj hji hjun hnot) (fun cs b => hsel i oi cs b hi) (fun cs b => hsel j oj cs b hoj) hQ hy (H.2 j (ready_mono hj hji)))
      obtain ⟨h4, h5, h6⟩ := h3
      have hS' : S w' := h5.resolve_left hjL
      refine ⟨.inr hS', ih (listed.setIfInBounds j true) a' w' (fun k ok hk hki hun hno => hfree k ok hk hki ?_ hno) (ready_mono hr (Ne.symm hji)) h4 hS' ?_⟩
      · by_cases hjk : j = k
        · subst hjk; exact hjun
        · rw [getD_set_ne true hjk] at hun; exact hun
      · rw [Array.setIfInBounds_comm _ _ hji]
        exact h6
/-- Number i is taken first. -/
theorem wpAnyE_take {i : Nat} {oi : Oper} {v : Value} {n : Nat} {listed : Array Bool} {a : Act} {w : World} (hL : waitB ops L i = true) (hi : ops[i]? = some oi)
    (hs : Region.noSelect ops = true) (hf : Region.free .any ops listed i = true) (hr : (Region.ready .any ops listed).contains i = true)
    (hQ : ∀ c a w, Q (.panic c) (a.put oi.dst v) w → Q (.panic c) a w) (hw : Region.wanted oi (yielded ops a.tmps) = true) (hS : S w)
    (hy : ∀ w, S w → (execOp a.eval oi).run P w = .ok (.value v) w)
    (h : wpAnyE P ops Q S L n (listed.setIfInBounds i true) (a.put oi.dst v) w) : wpAnyE P ops Q S L (n + 1) listed a w :=
  wpAnyE_first hL hi (Region.noSelect_spec hs) hQ n listed a w (Region.free_spec hi hf) (by simpa using hr) (.inl ⟨hw, hy⟩) hS h
/-- One alone may come up. -/
theorem wpAnyE_one {i : Nat} {o : Oper} {n : Nat} {listed : Array Bool} {a : Act} {w : World} (hr : Region.ready .any ops listed = [i]) (ho : ops[i]? = some o) (hw : Region.wanted o (yielded ops a.tmps) = true)
    (h : ∀ K : Act → World → Prop, (∀ a w, (i = L ∨ S w) → wpAnyE P ops Q S L n (listed.setIfInBounds i true) a w → K a w) → o.wp P a w K Q) : wpAnyE P ops Q S L (n + 1) listed a w := by
  refine ⟨fun h0 => (by rw [hr] at h0; cases h0), fun j hj => ?_⟩
  rw [hr] at hj
  have : j = i := by simpa using hj
  subst this
  unfold wpOp
  simp only [ho, hw, if_true]
  exact .inl (h _ fun a w h1 h2 => ⟨h1, h2⟩)
/-- Two may come up. -/
theorem wpAnyE_two {i j : Nat} {oi oj : Oper} {n : Nat} {listed : Array Bool} {a : Act} {w : World} (hr : Region.ready .any ops listed = [i, j]) (hi : ops[i]? = some oi) (hj : ops[j]? = some oj)
    (hwi : Region.wanted oi (yielded ops a.tmps) = true) (hwj : Region.wanted oj (yielded ops a.tmps) = true)
    (h1 : ∀ K : Act → World → Prop, (∀ a w, (i = L ∨ S w) → wpAnyE P ops Q S L n (listed.setIfInBounds i true) a w → K a w) → oi.wp P a w K Q)
    (h2 : ∀ K : Act → World → Prop, (∀ a w, (j = L ∨ S w) → wpAnyE P ops Q S L n (listed.setIfInBounds j true) a w → K a w) → oj.wp P a w K Q) : wpAnyE P ops Q S L (n + 1) listed a w := by
  refine ⟨fun h0 => (by rw [hr] at h0; cases h0), fun k hk => ?_⟩
  rw [hr] at hk
  have hk2 : k = i ∨ k = j := by simpa using hk
  unfold wpOp
  rcases hk2 with rfl | rfl
  · simp only [hi, hwi, if_true]
    exact .inl (h1 _ fun a w h1 h2 => ⟨h1, h2⟩)
  · simp only [hj, hwj, if_true]
    exact .inl (h2 _ fun a w h1 h2 => ⟨h1, h2⟩)
theorem wpAnyE_done {listed : Array Bool} {a : Act} {w : World} (hr : Region.ready .any ops listed = []) (h : Q .normal a w) : ∀ n, wpAnyE P ops Q S L n listed a w
  | 0 => ⟨hr, h⟩
  | _ + 1 => ⟨fun _ => h, by rw [hr]; simp⟩
theorem wp_region_E {id : Nat} {a : Act} {w : World} (L : Nat) (S : World → Prop) (hm : P.follows .mixedOrders = true)
    (h : wpAnyE P ops Q S L ops.size (Array.replicate ops.size false) a w.drew) : (Code.region id ops true).wp P Q a w :=
  wp_region_any hm (wpAny_of_E _ _ _ _ h)
end
end Go.Proofs.YtekokogmnhlchaaGreatDoor
namespace Go.Proofs.YtekokogmnhlchaaGreatDoor
open Go.RowKit
/-- Two values, built into a row. -/
theorem run_build2 (w : World) (k1 n1 : Int) (z1 : ByteArray) (k2 n2 : Int) (z2 : ByteArray) :
    (Instr.buildSlice 33 2 #[(0, .agg #[.int .i64 k1, .int .i64 n1, .string z1]), (1, .agg #[.int .i64 k2, .int .i64 n2, .string z2])]).run Tryz.prog w = .ok (.slice (some ⟨w.heap.size, 0, none⟩) 2 2) (w.alloc (.cells #[.int .i64 k1, .int .i64 n1, .string z1, .int .i64 k2, .int .i64 n2, .string z2] 28)) := by
  go_simp
theorem oper_build2 {w : World} {o : Oper} {a : Act} {K : Act → World → Prop} {Q : Exit → Act → World → Prop} {s t : Operand} {k1 n1 : Int} {z1 : ByteArray} {k2 n2 : Int} {z2 : ByteArray} (ho : o.op = .buildSlice 33 2 #[(0, s), (1, t)]) (hs : a.eval s = .agg #[.int .i64 k1, .int .i64 n1, .string z1]) (ht : a.eval t = .agg #[.int .i64 k2, .int .i64 n2, .string z2])
    (h : K (a.put o.dst (.slice (some ⟨w.heap.size, 0, none⟩) 2 2)) (w.alloc (.cells #[.int .i64 k1, .int .i64 n1, .string z1, .int .i64 k2, .int .i64 n2, .string z2] 28))) : o.wp Tryz.prog a w K Q := by
  have h1 := run_build2 w k1 n1 z1 k2 n2 z2
  unfold Oper.wp execOp
  simp only [ho]
  simp only [List.map_toArray, List.map_cons, List.map_nil, hs, ht, Sem.run_bind, h1, Result.andThen_ok, Sem.run_pure]
  exact h
theorem oper_assign {P : Program} {w : World} {o : Oper} {a : Act} {K : Act → World → Prop} {Q : Exit → Act → World → Prop} {x : Operand} {v : Value} (ho : o.op = .assign x) (hv : a.eval x = v) (h : K (a.put o.dst v) w) : o.wp P a w K Q := by
  unfold Oper.wp execOp
  simp only [ho, hv, Sem.run_bind, Sem.run_pure, Result.andThen_ok]
  exact h
theorem enter31 (vs : List Value) (w : World) : (invoke (.fn (.func 31) #[]) vs.toArray).run Tryz.prog w = .ok (.enter 31 vs.toArray) w := by
  simp [invoke, go_sem]
end Go.Proofs.YtekokogmnhlchaaGreatDoor
namespace Go.Proofs.YtekokogmnhlchaaGreatDoor
open Go.RowKit
theorem St.schema {B0 db sb n : Nat} {w0 w : World} {D : List Tb} (st : St B0 w0 w db sb n D) (nm : ByteArray) (hnm : nm.size ≤ 9223372036854775807) :
    Calls Tryz.prog 30 #[.pointer (some ⟨db, 0, none⟩), .string nm] w fun e w' => SchP D nm w' e ∧ Below w.heap.size w w' := by
  obtain ⟨L, hd, hl⟩ := st.ex
  exact schema_any B0 db sb L D nm w hd hnm
theorem OutR.atc {N n c : Nat} {w : World} {A : Option Addr} {L : List (List V)} (h : OutR N w A c n L) (j : Nat) (hj : j < n) {r : List V} (hr : L[j]? = some r) (k : Nat) (hk : k < r.length) :
    ∃ b g cj, A = some ⟨b, 0, none⟩ ∧ C w b j (.slice (some ⟨g, 0, none⟩) r.length cj) ∧ C w g (k * 3) (.int .i64 (col r k).k) ∧ C w g (k * 3 + 1) (.int .i64 (col r k).n) ∧ C w g (k * 3 + 2) (.string (col r k).s) := by
  obtain ⟨h0, sl, h1, h2⟩ := h
  obtain ⟨g, cj, h3, h4⟩ := h2 j r hr
  obtain ⟨b, rfl, _, _⟩ := own_ptr h1 (by omega)
  obtain ⟨b', o', he, c0, c1, c2⟩ := Row.cells (l := r) (Rd.of_own h4) k hk
  injection he with he
  injection he with e1 e2 _
  subst e1 e2
  have hcol : r[k] = col r k := by rw [col, List.getD_eq_getElem?_getD, List.getElem?_eq_getElem hk]; rfl
  rw [hcol, Nat.zero_add] at c0 c1 c2
  exact ⟨b, g, cj, rfl, (h1.cellAt j (by omega)).trans h3, c0, c1, c2⟩
/-- A row's value in a column, and its first. -/
theorem OutR.atcc {N n c : Nat} {w : World} {A : Option Addr} {L : List (List V)} (h : OutR N w A c n L) (j : Nat) (hj : j < n) {r : List V} (hr : L[j]? = some r) (k : Nat) (hk : k < r.length) :
    ∃ b g cj, A = some ⟨b, 0, none⟩ ∧ C w b j (.slice (some ⟨g, 0, none⟩) r.length cj) ∧ C w g (k * 3) (.int .i64 (col r k).k) ∧ C w g (k * 3 + 1) (.int .i64 (col r k).n) ∧ C w g (k * 3 + 2) (.string (col r k).s) ∧
      C w g 0 (.int .i64 (col r 0).k) ∧ C w g 1 (.int .i64 (col r 0).n) ∧ C w g 2 (.string (col r 0).s) ∧ Rd w 3 (some ⟨g, 0, none⟩) r.length (rowCells r) := by
  obtain ⟨b, g, cj, hA, h0, h1, h2, h3⟩ := h.atc j hj hr k hk
  obtain ⟨b', g', cj', hA', k0, _, ko, k1, k2, k3⟩ := h.at_ j hj hr (by omega)
  rw [hA] at hA'
  injection hA' with hA'
  injection hA' with e1 _ _
  subst e1
  unfold C at h0 k0
  rw [h0] at k0
  injection k0 with k0
  injection k0 with e2 _ e3
  injection e2 with e2
  injection e2 with e2 _ _
  subst e2 e3
  exact ⟨b, g, cj, hA, h0, h1, h2, h3, k1, k2, k3, Rd.of_own ko⟩
theorem two_allocs (w : World) (o1 o2 : Obj) : Below w.heap.size w ((w.drew.alloc o1).alloc o2) := by
  have h1 := ((Below.refl w.heap.size w).drew).alloc (Nat.le_refl _) o1
  exact h1.alloc h1.size o2
/-- What the look through an index tells. -/
structure IdxT (R : List (List V)) (k : Nat) (v : V) (X : List (List V)) : Prop where
  le : X.length ≤ 4
  cnt : min (cntV R k v) 4 ≤ X.length
  pos : 0 < X.length
  first : ∀ r, X[0]? = some r → col r k = v
  lt : ∀ q a b, X[q]? = some a → X[q + 1]? = some b → cmpVs [col a k, col a 0] [col b k, col b 0] = -1
  mem : ∀ r ∈ X, r ∈ R
theorem idx_call {B0 db sb n : Nat} {w0 w : World} {D : List Tb} (st : St B0 w0 w db sb n D) (hn : n ≤ 50000) {nm : ByteArray} (hnm : nm.size ≤ 9223372036854775807) {i : Nat} {T : Tb} (hf : findT D nm 0 = some (i, T)) {R : List (List V)} (hR : WalkL T i R) (k : Nat) (hk : ∃ x ∈ T.s.ixs, x.col = (k : Nat)) {u : List V} (hu : u ∈ R) :
    Calls Tryz.prog 20 #[.pointer (some ⟨db, 0, none⟩), .string nm, .int .i64 (k : Nat), .agg #[.int .i64 (col u k).k, .int .i64 (col u k).n, .string (col u k).s], .agg #[.int .i64 0, .int .i64 0, .string ⟨#[]⟩], .int .i64 4] w
      fun e w' => ∃ A c cl X, e = .returned (.tuple #[.slice A X.length c, .int .i64 0]) ∧ OutR w.heap.size w' A cl X.length X ∧ IdxT R k (col u k) X ∧ Below w.heap.size w w' := by
  have hT := (findT_at hf).1
  have ho := st.ok
  have huT := (hR.mem u).1 hu
  have hv := ho.val hT huT k
  have hsc := st.scan nm k (col u k) nothing 4 hn hnm hv.2.1 hv.2.2 ⟨by decide, by decide⟩ (by decide)
  refine hsc.mono fun e w' hp => ?_
  obtain ⟨h1, h2⟩ := hp
  rw [hf] at h1
  simp only at h1
  have hE : scanE T k (col u k) nothing 4 = 0 := by
    obtain ⟨x, hx, hxc⟩ := hk
    rw [scanE, if_pos (.inr (List.any_eq_true.2 ⟨x, hx, by simpa using hxc⟩)), if_neg (by rw [hv.1]; decide), if_neg (by decide)]
  rw [if_pos hE] at h1
  obtain ⟨S, A, c, hS, he, hrows⟩ := h1
  have hS' : ScanL T i (k : Nat) (col u ((k : Nat) : Int).toNat) nothing S := by simpa using hS
  have hrow : ∀ r ∈ S.take 4, r ∈ T.rows := fun r hr => ((hS.mem r).1 (List.mem_of_mem_take hr)).1
  obtain ⟨cl, ho2⟩ := RowsAt.out hrows (fun r hr => (ho.fit i T hT r (hrow r hr)).pos (ho.right i T hT))
  have hl : (S.take 4).length = min S.length 4 := by rw [List.length_take]; omega
  have hcnt := idx_cnt ho hT hR huT hS'
  have hpos := idx_pos ho hT huT hS'
  simp only [Int.toNat_natCast] at hcnt
  refine ⟨A, c, cl, S.take 4, by rw [hl]; exact he, by rw [hl]; exact ho2, ⟨by omega, by omega, by omega, fun r hr => ?_, fun q a b ha hb => ?_, fun r hr => (hR.mem r).2 (hrow r hr)⟩, h2⟩
  · rw [List.getElem?_take, if_pos (by omega)] at hr
    simpa using idx_first ho hT huT hS' hr
  · have hq4 : q + 1 < 4 := by
      have := (List.getElem?_eq_some_iff.1 hb).1
      omega
    rw [List.getElem?_take, if_pos (by omega)] at ha hb
    obtain ⟨h3, rfl⟩ := List.getElem?_eq_some_iff.1 ha
    obtain ⟨h4, rfl⟩ := List.getElem?_eq_some_iff.1 hb
    simpa using idx_lt (c := (k : Nat)) ho hT hS h3 h4 (Nat.lt_succ_self q)
set_option maxHeartbeats 100000000 in
set_option maxRecDepth 1000000 in
theorem indexes_ok (A : Option Addr) (m c : Nat) (l : List OpV) (w : World) (ho : OpsAt w.heap.size w A m l) (hf : FitL l) (hm : m ≤ 1000000000) (hT : Tabs w) :
    Calls Tryz.prog 8 #[.slice A m c] w fun e w' => e = .returned (.bool true) ∧ Below w.heap.size w w' := by
  have HT := hide hT
  have Ho := hide ho
  have Hf := hide hf
  clear hT ho hf
  go_enter Tryz.func8, Tryz.ntmps8
  go_wp2_with fail
  refine (lnew_ok _).mono ?_
  rintro e w1 ⟨db, sb, rfl, hd, hb⟩
  have S1 := hide (St.new hd hb HT.out HT.out.three)
  have Hb1 := hide hb
  clear hd hb
  have hrun := run_any S1.out A m c l 30 (Ho.out.below Hb1.out) Hf.out (by omega) (by omega) hm
  have Hrun := hide hrun
  clear hrun
  go_wp2_with fail
  refine Hrun.out.mono ?_
  rintro e w2 ⟨rfl, hs2, hu2⟩
  obtain ⟨D, hD⟩ : ∃ D, runD [] (l.take 30) = D := ⟨_, rfl⟩
  have huq : UqD D := hD ▸ UqD.run _ UqD.nil
  rw [hD] at hs2
  have S2 := hide hs2
  have hnm := hs2.names (by omega)
  have Hnm := hide hnm
  have Huq := hide huq
  clear hs2 hu2 hD Hrun S1 Hb1 Ho hnm huq Hf
  go_wp2_with fail
  refine Hnm.out.mono ?_
  rintro e w3 ⟨ns, A3, c3, hns, rfl, hown3, hb3⟩
  have S3 := hide (S2.out.below hb3)
  have Hns := hide hns
  obtain ⟨dn, hdn⟩ : ∃ dn, D.length = dn := ⟨_, rfl⟩
  rw [hdn] at hown3 ⊢
  have N3 := hide hown3
  have hd4 : dn ≤ 4 := by have := S3.out.ok.n4; omega
  have Hdn := hide hdn
  clear hdn hown3 hb3 hns Hnm S2
  go_wp2_with fail
  go_loopw [7] (fun iv wr => ∃ i : Nat, i ≤ dn ∧ iv = .int .i64 i ∧ Hid (Below w3.heap.size w3 wr)) (fun iv _ => dn - (intOf iv).toNat)
  case atStart => exact ⟨0, Nat.zero_le _, rfl, hide (Below.refl _ _)⟩
  case round =>
    obtain ⟨i, hi, rfl, HB⟩ := hrel
    by_cases hlt : i < dn
    · obtain ⟨nm, hn0⟩ : ∃ nm, ns[i]? = some nm := ⟨_, List.getElem?_eq_getElem (by rw [Hns.out.len, Hdn.out]; exact hlt)⟩
      obtain ⟨ti, T, hT, hTn⟩ := (Hns.out.mem nm).1 (List.mem_of_getElem? hn0)
      have hf0 := names_found hT S3.out.ok hTn
      have hnms : nm.size ≤ 9223372036854775807 := by
        rw [← hTn]
        have := name_size (right_facts (S3.out.ok.right ti T hT)).nm
        omega
      obtain ⟨g3, rfl, _, _⟩ := own_ptr N3.out (by omega)
      have hc0 : ∀ W, Below w3.heap.size w3 W → C W g3 i (.string nm) := fun W hW => ((own_below N3.out hW).cellAt i (by omega)).trans (by rw [strs, List.getElem?_map, hn0]; rfl)
      have n0 := hc0 wr HB.out
      have hsch := (S3.out.below HB.out).schema nm hnms
      have Hc0 := hide hc0
      have Hsch := hide hsch
      have HTi := hide hT
      have Hf0 := hide hf0
      have hii : (i : Int) < (dn : Int) := by omega
      clear hc0 hsch hT hf0 hTn hn0
      go_wp2_with fail
      refine Hsch.out.mono ?_
      rintro e w4 ⟨hp4, hb4⟩
      rw [SchP, Hf0.out] at hp4
      obtain ⟨sv, rfl, CA, cc, XA, xc, rfl, _, _, hC, hX⟩ := hp4
      have hal := (Below.refl w4.heap.size w4).alloc (Nat.le_refl _) (.cells #[.string T.s.name, .slice CA T.s.cols.length cc, .slice XA T.s.ixs.length xc] 25)
      have hnb := Blk.new w4 #[.string T.s.name, .slice CA T.s.cols.length cc, .slice XA T.s.ixs.length xc] 25
      have hB5 := below_then HB.out HB.out.size (below_chain hb4 hal)
      have hX5 := hX.below hal
      obtain ⟨kb, hkb⟩ : ∃ kb, w4.heap.size = kb := ⟨_, rfl⟩
      obtain ⟨W5, hW5⟩ : ∃ W5, w4.alloc (.cells #[.string T.s.name, .slice CA T.s.cols.length cc, .slice XA T.s.ixs.length xc] 25) = W5 := ⟨_, rfl⟩
      rw [hW5] at hal hnb hB5 hX5
      have n5 := Hc0.out W5 hB5
      have hlen := (S3.out.below hB5).len nm hnms
      rw [Hf0.out] at hlen
      obtain ⟨tn, htn⟩ : ∃ tn, T.rows.length = tn := ⟨_, rfl⟩
      simp only [htn] at hlen
      have Hlen := hide hlen
      have HB5 := hide hB5
      have HX5 := hide hX5
      have Hnb5 := hide hnb
      have Htn := hide htn
      clear hlen hB5 hX5 hnb hal hb4 hX hC Hsch n0 HB htn
      go_wp2_with fail
      refine Hlen.out.mono ?_
      rintro e w6 ⟨rfl, hb6⟩
      have HB6 := hide (below_then HB5.out HB5.out.size hb6)
      have HX6 := hide (HX5.out.below hb6)
      have Hnb6 := hide (Hnb5.out.below hb6)
      rw [hkb] at Hnb6
      have n6 := Hc0.out w6 HB6.out
      obtain ⟨R, hR⟩ := walk_exists S3.out.ok HTi.out
      have hw := walk_ok (S3.out.below HB6.out) (by omega) hnms Hf0.out hR
      have hrn : R.length = tn := by rw [hR.len S3.out.ok HTi.out, Htn.out]
      rw [hrn] at hw
      have hx3 : T.s.ixs.length ≤ 3 := (right_facts (S3.out.ok.right ti T HTi.out)).x3
      have hr64 : tn ≤ 64 := by rw [← Htn.out]; exact S3.out.ok.n64 ti T HTi.out
      have Hw := hide hw
      have HR := hide hR
      have Hrn := hide hrn
      clear hw hR hrn hb6 Hlen HB5 HX5 Hnb5 n5 hW5 hkb
      go_wp2_with fail
      refine Hw.out.mono ?_
      rintro e w7 ⟨A7, c7, rfl, hout7, hb7⟩
      have HB7 := hide (below_then HB6.out HB6.out.size hb7)
      have HX7 := hide (HX6.out.below hb7)
      have Hnb7 := hide (Hnb6.out.below hb7)
      obtain ⟨z6, hz6⟩ : ∃ z, w6.heap.size = z := ⟨_, rfl⟩
      rw [hz6] at hout7
      have HQ7 := hide hout7
      obtain ⟨xn, hxn⟩ : ∃ xn, T.s.ixs.length = xn := ⟨_, rfl⟩
      rw [hxn] at HX7 Hnb7 hx3
      have Hxn := hide hxn
      clear hout7 hb7 hz6 HB6 HX6 Hnb6 n6 Hw hxn
      go_wp2_with fail
      have B7 := HB7.out
      clear B7
      go_loopw [14] (fun kv wx => ∃ k : Nat, k ≤ xn ∧ kv = .int .i64 k ∧ Hid (Below w7.heap.size w7 wx)) (fun kv _ => xn - (intOf kv).toNat)
      case atStart => exact ⟨0, Nat.zero_le _, rfl, hide (Below.refl _ _)⟩
      case round =>
        obtain ⟨k, hk, rfl, HK⟩ := hrel
        have f2 := (Hnb7.out.below HK.out).c 2 (v := .slice XA xn xc) rfl
        by_cases hkl : k < xn
        · have hkx : k < T.s.ixs.length := by rw [Hxn.out]; exact hkl
          obtain ⟨x, hx⟩ : ∃ x, T.s.ixs[k] = x := ⟨_, rfl⟩
          have hxm : x ∈ T.s.ixs := hx ▸ List.getElem_mem hkx
          have hxf := (right_facts (S3.out.ok.right ti T HTi.out)).xs x hxm
          obtain ⟨cn, hcn⟩ : ∃ cn : Nat, x.col = (cn : Int) := ⟨x.col.toNat, by omega⟩
          have hcx : x.col.toNat = cn := by omega
          have hcc : cn < T.s.cols.length := by omega
          obtain ⟨xb, xo, hXA, hc⟩ := Rd.struct Ix.cells_len T.s.ixs Hxn.out (HX7.out.below HK.out) k hkx
          subst hXA
          rw [hx] at hc
          have e0 : C wr xb (xo + k * 2) (.int .i64 x.col) := hc 0 (by omega)
          rw [hcn] at e0
          have hki : (k : Int) < (xn : Int) := by omega
          have hxc : ∀ W, Below w7.heap.size w7 W → C W kb 2 (.slice (some ⟨xb, xo, none⟩) xn xc) ∧ C W xb (xo + k * 2 + 1) (.bool x.uniq) := fun W hW => by
            obtain ⟨xb', xo', hXA', hc'⟩ := Rd.struct Ix.cells_len T.s.ixs Hxn.out (HX7.out.below hW) k hkx
            injection hXA' with hXA'
            injection hXA' with q1 q2 _
            subst q1 q2
            rw [hx] at hc'
            exact ⟨(Hnb7.out.below hW).c 2 rfl, hc' 1 (by omega)⟩
          have hrows : ∀ (j : Nat) (r : List V), R[j]? = some r → cn < r.length ∧ r ∈ R ∧ okV (col r cn) ∧ okV (col r 0) ∧ r.length ≤ 100000000 := fun j r hr => by
            have h1 := List.mem_of_getElem? hr
            have h2 := (HR.out.mem r).1 h1
            have h3 := S3.out.ok.val HTi.out h2
            have h4 := S3.out.ok.fit ti T HTi.out r h2
            exact ⟨by rw [fits_len h4.fit]; exact hcc, h1, h3 cn, h3 0, walk_small S3.out.ok HTi.out HR.out r h1⟩
          have huq : x.uniq = true → ∀ u, (col u cn).k ≠ 0 → cntV R cn (col u cn) ≤ 1 := fun h1 u h2 => by
            have := idx_uniq S3.out.ok HTi.out (Huq.out ti T HTi.out) HR.out hxm h1 (u := u) (by rw [hcx]; exact h2)
            rwa [hcx] at this
          have hidx : ∀ W, Below w7.heap.size w7 W → ∀ u, u ∈ R → Calls Tryz.prog 20 _ W _ := fun W hW u hu =>
            idx_call (S3.out.below (below_then HB7.out HB7.out.size hW)) (by omega) hnms Hf0.out HR.out cn ⟨x, hxm, hcn⟩ hu
          have Hxc := hide hxc
          have Hrows := hide hrows
          have Huq2 := hide huq
          have Hidx := hide hidx
          obtain ⟨xu, hxu⟩ : ∃ xu, x.uniq = xu := ⟨_, rfl⟩
          rw [hxu] at Hxc Huq2
          clear hxc hrows huq hidx hc hxu hxm hxf hcn hcx hcc hx
          as_aux_lemma =>
            go_wp2_with fail
            go_loopw [16] (fun rv wx => ∃ r : Nat, r ≤ tn ∧ rv = .int .i64 r ∧ Hid (Below w7.heap.size w7 wx)) (fun rv _ => tn - (intOf rv).toNat)
            case atStart => exact ⟨0, Nat.zero_le _, rfl, HK⟩
            case round =>
              clear HK e0 f2
              obtain ⟨r, hr, rfl, HK⟩ := hrel
              by_cases hrl : r < tn
              · obtain ⟨u, hu⟩ : ∃ u, R[r]? = some u := ⟨_, List.getElem?_eq_getElem (by rw [Hrn.out]; exact hrl)⟩
                obtain ⟨hul, hum, huok, huok0, _⟩ := Hrows.out r u hu
                have hri : (r : Int) < (tn : Int) := by omega
                have hyc : ∀ W, Below w7.heap.size w7 W → ∃ ub ug uj, A7 = some ⟨ub, 0, none⟩ ∧ C W ub r (.slice (some ⟨ug, 0, none⟩) u.length uj) ∧ C W ug (cn * 3) (.int .i64 (col u cn).k) ∧ C W ug (cn * 3 + 1) (.int .i64 (col u cn).n) ∧ C W ug (cn * 3 + 2) (.string (col u cn).s) := fun W hW => (HQ7.out.below hW).atc r hrl hu cn hul
                have Hyc := hide hyc
                obtain ⟨v, hv⟩ : ∃ v, col u cn = v := ⟨_, rfl⟩
                have hid := fun W hW => Hidx.out W hW u hum
                have hun := fun h1 => Huq2.out h1 u
                rw [hv] at hid hun huok Hyc
                have Hid2 := hide hid
                have Hun := hide hun
                have Huok := hide huok
                obtain ⟨ul, hull⟩ : ∃ ul, u.length = ul := ⟨_, rfl⟩
                rw [hull] at Hyc hul
                have hcu : (cn : Int) < (ul : Int) := by omega
                clear hyc hid hun huok huok0 hum hull
                go_wp2_with fail
                go_loopw [17, 18] (fun mv qv wx => ∃ q : Nat, q ≤ tn ∧ qv = .int .i64 q ∧ mv = .int .i64 (cntV (R.take q) cn v : Nat) ∧ Hid (Below w7.heap.size w7 wx)) (fun _ qv _ => tn - (intOf qv).toNat)
                case atStart => exact ⟨0, Nat.zero_le _, rfl, rfl, HK⟩
                case round =>
                  clear HK
                  obtain ⟨q, hq, rfl, rfl, HK⟩ := hrel
                  by_cases hql : q < tn
                  · obtain ⟨p, hp⟩ : ∃ p, R[q]? = some p := ⟨_, List.getElem?_eq_getElem (by rw [Hrn.out]; exact hql)⟩
                    obtain ⟨hpl, _, _, _, _⟩ := Hrows.out q p hp
                    obtain ⟨ub, ug, uj, hA7, y0, y1, y2, y3⟩ := Hyc.out wr HK.out
                    subst hA7
                    obtain ⟨pb, pg, pj, hA', z0, z1, z2, z3⟩ := (HQ7.out.below HK.out).atc q hql hp cn hpl
                    injection hA' with hA'
                    injection hA' with q1 _ _
                    subst q1
                    have hcnt := cntV_next (R := R) (q := q) (by rw [Hrn.out]; exact hql) cn v
                    rw [show R[q]'(by rw [Hrn.out]; exact hql) = p by rw [List.getElem?_eq_getElem (by rw [Hrn.out]; exact hql)] at hp; exact Option.some.inj hp] at hcnt
                    have hct := cntV_take R q cn v
                    obtain ⟨mm, hmm⟩ : ∃ mm, cntV (R.take q) cn v = mm := ⟨_, rfl⟩
                    rw [hmm] at hcnt hct ⊢
                    obtain ⟨pv, hpv⟩ : ∃ pv, col p cn = pv := ⟨_, rfl⟩
                    rw [hpv] at z1 z2 z3 hcnt
                    obtain ⟨pl, hpll⟩ : ∃ pl, p.length = pl := ⟨_, rfl⟩
                    rw [hpll] at z0 hpl
                    have hcp : (cn : Int) < (pl : Int) := by omega
                    have hqi : (q : Int) < (tn : Int) := by omega
                    obtain ⟨vk, vn, vz⟩ := v
                    obtain ⟨wk, wn, wz⟩ := pv
                    dsimp only at y1 y2 y3 z1 z2 z3
                    by_cases he : (⟨wk, wn, wz⟩ : V) = ⟨vk, vn, vz⟩
                    · rw [if_pos he] at hcnt
                      have Hcnt := hide hcnt
                      injection he with a1 a2 a3
                      subst a1 a2 a3
                      clear hcnt hpv hpll hp hmm
                      go_wp2_with fail
                      go_quiet (fail)
                      all_goals
                        go_wp2_with fail
                        exact ⟨⟨q + 1, hql, by go_num, by rw [Hcnt.out]; go_num, hide (below_drewN HK.out _)⟩, by simp [intOf]; omega⟩
                    · rw [if_neg he, Nat.add_zero] at hcnt
                      have Hcnt := hide hcnt
                      have h3 : wk ≠ vk ∨ (wk = vk ∧ wn ≠ vn) ∨ (wk = vk ∧ wn = vn ∧ (wz.toList == vz.toList) = false) := by
                        by_cases a1 : wk = vk
                        · by_cases a2 : wn = vn
                          · right; right
                            refine ⟨a1, a2, ?_⟩
                            rw [beq_eq_false_iff_ne]
                            intro h
                            rw [ByteArray.toList_eq, ByteArray.toList_eq] at h
                            exact he (V.ext_ a1 a2 (bytes_inj h))
                          · exact .inr (.inl ⟨a1, a2⟩)
                        · exact .inl a1
                      clear hcnt hpv hpll hp hmm he
                      rcases h3 with h3 | ⟨rfl, h3⟩ | ⟨rfl, rfl, h3⟩
                      all_goals
                        go_wp2_with fail
                        go_quiet (fail)
                        all_goals
                          go_wp2_with fail
                          exact ⟨⟨q + 1, hql, by go_num, by rw [Hcnt.out]; rfl, hide (below_drewN HK.out _)⟩, by simp [intOf]; omega⟩
                  · have hqe : q = tn := by omega
                    subst hqe
                    have hqi : ¬ (q : Int) < (q : Int) := by omega
                    have htk : R.take q = R := List.take_of_length_le (by rw [Hrn.out]; exact Nat.le_refl _)
                    have hct := cntV_take R q cn v
                    rw [htk] at hct ⊢
                    obtain ⟨mm, hmm⟩ : ∃ mm, cntV R cn v = mm := ⟨_, rfl⟩
                    rw [hmm] at hct Hun ⊢
                    have Hmm := hide hmm
                    clear htk hmm
                    obtain ⟨f2, e1⟩ := Hxc.out wr HK.out
                    obtain ⟨ub, ug, uj, hA7, y0, y1, y2, y3⟩ := Hyc.out wr HK.out
                    subst hA7
                    have hqU : mm ≤ 64 := by omega
                    go_upto_region 31 with fail
                    go_cut [148] (fun t wx => t = .bool false ∧ Hid (Below w7.heap.size w7 wx))
                    case first =>
                      cases xu with
                      | false =>
                        go_wp2_with fail
                        go_meet
                        exact ⟨rfl, HK⟩
                      | true =>
                        by_cases h1 : mm ≤ 1
                        · have t1 : ¬ (1 : Int) < (mm : Int) := by omega
                          go_wp2_with fail
                          go_meet
                          exact ⟨rfl, HK⟩
                        · have t1 : (1 : Int) < (mm : Int) := by omega
                          have hk0 : v.k = 0 := by
                            by_cases h0 : v.k = 0
                            · exact h0
                            · exact absurd (Hun.out rfl h0) h1
                          rw [hk0] at y1
                          clear hk0 h1
                          go_wp2_with fail
                          go_meet
                          exact ⟨rfl, HK⟩
                    case rest =>
                      obtain ⟨rfl, HK8⟩ := hcut
                      obtain ⟨W8, hW8⟩ : ∃ W, W = wc := ⟨_, rfl⟩
                      subst hW8
                      clear f2 e1 y0 y1 y2 y3 HK
                      have n8 := Hc0.out W8 (below_then HB7.out HB7.out.size HK8.out)
                      obtain ⟨ub', ug8, uj8, hA8, y0, y1, y2, y3⟩ := Hyc.out W8 HK8.out
                      injection hA8 with hA8
                      injection hA8 with a1 _ _
                      subst a1
                      have hid3 := fun W (hW : Below W8.heap.size W8 W) => Hid2.out W (below_then HK8.out HK8.out.size hW)
                      have Hid3 := hide hid3
                      have hri2 : (r : Int) < (q : Int) := by omega
                      clear hid3
                      go_wp2_with fail
                      go_region_held3 (fun w' => w'.cell? ⟨g3, i, none⟩ = some (.string nm) ∧ w'.cell? ⟨ub, r, none⟩ = some (.slice (some ⟨ug8, 0, none⟩) ul uj8) ∧ w'.cell? ⟨ug8, cn * 3, none⟩ = some (.int .i64 v.k) ∧ w'.cell? ⟨ug8, cn * 3 + 1, none⟩ = some (.int .i64 v.n) ∧ w'.cell? ⟨ug8, cn * 3 + 2, none⟩ = some (.string v.s))
                        ((first | (go_keep; done) | exact ⟨n8.below (undrewd hb9), y0.below (undrewd hb9), y1.below (undrewd hb9), y2.below (undrewd hb9), y3.below (undrewd hb9)⟩))
                        ((go_at_call 20; refine (Hid3.out _ ((Below.refl _ _).drew)).mono ?_; rintro e w9 ⟨A9, c9, cl9, X, rfl, hX9, hI9, hb9⟩))
                      all_goals
                        have hbe := undrewd hb9
                        have HK9 := hide (below_then HK8.out HK8.out.size hbe)
                        obtain ⟨xl, hxl⟩ : ∃ xl, X.length = xl := ⟨_, rfl⟩
                        have hI := hI9
                        rw [hxl] at hX9 ⊢
                        obtain ⟨hle, hcnt, hpos, hfirst, hltX, hmem⟩ := hI9
                        rw [hxl] at hle hcnt hpos
                        rw [Hmm.out] at hcnt
                        have hXr : ∀ (j : Nat) (r : List V), X[j]? = some r → cn < r.length ∧ r ∈ R ∧ okV (col r cn) ∧ okV (col r 0) ∧ r.length ≤ 100000000 := fun j r hr => by
                          obtain ⟨z, hz, hzr⟩ := List.getElem_of_mem (hmem r (List.mem_of_getElem? hr))
                          exact Hrows.out z r (by rw [List.getElem?_eq_getElem hz, hzr])
                        obtain ⟨r0, hr0⟩ : ∃ r0, X[0]? = some r0 := ⟨_, List.getElem?_eq_getElem (by omega)⟩
                        have hr0v := hfirst r0 hr0
                        obtain ⟨hl0, _⟩ := hXr 0 r0 hr0
                        obtain ⟨vb, vg, vj, hA9, v0, v1, v2, v3⟩ := hX9.atc 0 hpos hr0 cn hl0
                        subst hA9
                        rw [hr0v] at v1 v2 v3
                        obtain ⟨ub', ug9, uj9, hA8, y0, y1, y2, y3⟩ := Hyc.out w9 HK9.out
                        injection hA8 with hA8
                        injection hA8 with a1 _ _
                        subst a1
                        obtain ⟨l0, hl0'⟩ : ∃ l0, r0.length = l0 := ⟨_, rfl⟩
                        rw [hl0'] at v0 hl0
                        have HX9 := hide hX9
                        have HltX := hide hltX
                        have HXr := hide hXr
                        have Hxl := hide hxl
                        have t1 : ¬ (xl : Int) < min (mm : Int) 4 := by omega
                        have t2 : ¬ (4 : Int) < (xl : Int) := by omega
                        have t3 : (0 : Int) < (xl : Int) := by omega
                        have t12 : ¬ ((xl : Int) < min (mm : Int) 4 ∨ (4 : Int) < (xl : Int)) := by omega
                        have t4 : (cn : Int) < (l0 : Int) := by omega
                        clear hX9 hltX hXr hxl hfirst hmem hr0 hr0v hl0' hI hb9 hbe hcnt Hid3
                        go_wp2_with fail
                        go_quiet (fail)
                        all_goals
                          obtain ⟨WQ, hWQ⟩ : ∃ WQ, w9.drewN nq = WQ := ⟨_, rfl⟩
                          have hbq : Below w9.heap.size w9 WQ := hWQ ▸ below_drewN (Below.refl w9.heap.size w9) nq
                          rw [hWQ]
                          have HBQ := hide hbq
                          clear hWQ hbq n8 y0 y1 y2 y3 v0 v1 v2 v3
                          go_wp2_with fail
                          clear t1 t2 t12
                          as_aux_lemma =>
                            go_loopw [21] (fun qv wx => ∃ qq : Nat, 1 ≤ qq ∧ qq ≤ xl ∧ qv = .int .i64 qq ∧ Hid (Below w9.heap.size w9 wx)) (fun qv _ => xl - (intOf qv).toNat)
                            case atStart => exact ⟨1, Nat.le_refl _, hpos, rfl, HBQ⟩
                            case round =>
                              clear HBQ
                              obtain ⟨qq, hq1, hq2, rfl, HB9⟩ := hrel
                              by_cases hqx : qq < xl
                              · obtain ⟨q1, rfl⟩ : ∃ q1, qq = q1 + 1 := ⟨qq - 1, by omega⟩
                                obtain ⟨a, ha⟩ : ∃ a, X[q1]? = some a := ⟨_, List.getElem?_eq_getElem (by rw [Hxl.out]; omega)⟩
                                obtain ⟨b, hb⟩ : ∃ b, X[q1 + 1]? = some b := ⟨_, List.getElem?_eq_getElem (by rw [Hxl.out]; exact hqx)⟩
                                obtain ⟨hal, ham, hao, hao0, _⟩ := HXr.out q1 a ha
                                obtain ⟨hbl, hbm, hbo, hbo0, hbz⟩ := HXr.out (q1 + 1) b hb
                                have hlt := HltX.out q1 a b ha hb
                                obtain ⟨vb1, ga, ja, hA1, a0, a1, a2, a3, a4, a5, a6, _⟩ := (HX9.out.below HB9.out).atcc q1 (by omega) ha cn hal
                                obtain ⟨vb2, gb, jb, hA2, b0, b1, b2, b3, b4, b5, b6, brd⟩ := (HX9.out.below HB9.out).atcc (q1 + 1) hqx hb cn hbl
                                injection hA1 with hA1
                                injection hA1 with c1 _ _
                                subst c1
                                injection hA2 with hA2
                                injection hA2 with c1 _ _
                                subst c1
                                have HK10 := hide (below_then HK9.out HK9.out.size HB9.out)
                                have ham2 : ∀ W, Below wr.heap.size wr W → Calls Tryz.prog 32 #[.slice (some ⟨ub, 0, none⟩) q c7, .slice (some ⟨gb, 0, none⟩) b.length jb] W fun e w' => e = .returned (.bool true) ∧ Below W.heap.size W w' := fun W hW => by
                                  have h := among_any (some ⟨ub, 0, none⟩) (some ⟨gb, 0, none⟩) q c7 b.length jb R b W ((HQ7.out.below (below_then HK10.out HK10.out.size hW)).read (fun r hr => by
                                    obtain ⟨z, hz, hzr⟩ := List.getElem_of_mem hr
                                    exact (Hrows.out z r (by rw [List.getElem?_eq_getElem hz, hzr])).2.2.2.2)) rfl (brd.below hW) (by omega)
                                  rwa [show decide (b ∈ R) = true by simpa using hbm] at h
                                obtain ⟨va, hva⟩ : ∃ v, col a cn = v := ⟨_, rfl⟩
                                obtain ⟨ka, hka⟩ : ∃ v, col a 0 = v := ⟨_, rfl⟩
                                obtain ⟨vbv, hvb⟩ : ∃ v, col b cn = v := ⟨_, rfl⟩
                                obtain ⟨kbv, hkb⟩ : ∃ v, col b 0 = v := ⟨_, rfl⟩
                                rw [hva] at a1 a2 a3 hao hlt
                                rw [hka] at a4 a5 a6 hao0 hlt
                                rw [hvb] at b1 b2 b3 hbo hlt
                                rw [hkb] at b4 b5 b6 hbo0 hlt
                                have hcmp : ∀ (W : World) (g1 g2 : Nat), Rd W 3 (some ⟨g1, 0, none⟩) 2 (rowCells [va, ka]) → Rd W 3 (some ⟨g2, 0, none⟩) 2 (rowCells [vbv, kbv]) → Calls Tryz.prog 31 #[.slice (some ⟨g1, 0, none⟩) 2 2, .slice (some ⟨g2, 0, none⟩) 2 2] W fun e w' => e = .returned (.int .i64 (-1)) ∧ Below W.heap.size W w' := fun W g1 g2 r1 r2 => by
                                  rw [← hlt]
                                  exact compare_any _ _ 2 2 2 2 [va, ka] [vbv, kbv] W rfl rfl r1 r2 (by omega) (fun z hz => by
                                    simp only [List.mem_cons, List.mem_nil_iff, or_false] at hz
                                    rcases hz with rfl | rfl
                                    · exact hao
                                    · exact hao0) (fun z hz => by
                                    simp only [List.mem_cons, List.mem_nil_iff, or_false] at hz
                                    rcases hz with rfl | rfl
                                    · exact hbo
                                    · exact hbo0)
                                obtain ⟨al, hall⟩ : ∃ l, a.length = l := ⟨_, rfl⟩
                                obtain ⟨bl, hbll⟩ : ∃ l, b.length = l := ⟨_, rfl⟩
                                rw [hall] at a0 hal
                                rw [hbll] at b0 hbl ham2
                                obtain ⟨xak, xan, xas⟩ := va
                                obtain ⟨yak, yan, yas⟩ := ka
                                obtain ⟨xbk, xbn, xbs⟩ := vbv
                                obtain ⟨ybk, ybn, ybs⟩ := kbv
                                dsimp only at a1 a2 a3 a4 a5 a6 b1 b2 b3 b4 b5 b6
                                have Hcmp := hide hcmp
                                have Ham2 := hide ham2
                                have hqi : (q1 : Int) + 1 < (xl : Int) := by omega
                                have hqi1 : (q1 : Int) < (xl : Int) := by omega
                                have hqi2 : (q1 : Int) < (q1 : Int) + 1 := by omega
                                have hwr1 : IntKind.i64.wrap (q1 : Int) = q1 := by rw [IntKind.wrap_i64]; omega
                                have i1 : (cn : Int) < (al : Int) := by omega
                                have i2 : (cn : Int) < (bl : Int) := by omega
                                have i3 : (0 : Int) < (al : Int) := by omega
                                have i4 : (0 : Int) < (bl : Int) := by omega
                                have i5 : 0 < al := by omega
                                have i6 : 0 < bl := by omega
                                have i7 : q1 + 1 < xl := by omega
                                have i8 : ((q1 + 1 : Nat) : Int) < (xl : Int) := by omega
                                have i9 : (0 : Int) ≤ (q1 : Int) + 1 := by omega
                                have i10 : q1 < xl := by omega
                                have i11 : cn < al := by omega
                                have i12 : cn < bl := by omega
                                clear hcmp ham2 hva hka hvb hkb hlt hao hao0 hbo hbo0 ham hbm hbz ha hb brd hall hbll
                                go_wp2_with fail
                                have hS : ∀ W', Below wr.heap.size wr W' → (W'.cell? ⟨vb, q1, none⟩ = some (.slice (some ⟨ga, 0, none⟩) al ja) ∧ W'.cell? ⟨vb, q1 + 1, none⟩ = some (.slice (some ⟨gb, 0, none⟩) bl jb) ∧ W'.cell? ⟨ga, cn * 3, none⟩ = some (.int .i64 xak) ∧ W'.cell? ⟨ga, cn * 3 + 1, none⟩ = some (.int .i64 xan) ∧ W'.cell? ⟨ga, cn * 3 + 2, none⟩ = some (.string xas) ∧ W'.cell? ⟨ga, 0, none⟩ = some (.int .i64 yak) ∧ W'.cell? ⟨ga, 1, none⟩ = some (.int .i64 yan) ∧ W'.cell? ⟨ga, 2, none⟩ = some (.string yas) ∧ W'.cell? ⟨gb, cn * 3, none⟩ = some (.int .i64 xbk) ∧ W'.cell? ⟨gb, cn * 3 + 1, none⟩ = some (.int .i64 xbn) ∧ W'.cell? ⟨gb, cn * 3 + 2, none⟩ = some (.string xbs) ∧ W'.cell? ⟨gb, 0, none⟩ = some (.int .i64 ybk) ∧ W'.cell? ⟨gb, 1, none⟩ = some (.int .i64 ybn) ∧ W'.cell? ⟨gb, 2, none⟩ = some (.string ybs)) := fun W' hW' => ⟨a0.below hW', b0.below hW', a1.below hW', a2.below hW', a3.below hW', a4.below hW', a5.below hW', a6.below hW', b1.below hW', b2.below hW', b3.below hW', b4.below hW', b5.below hW', b6.below hW'⟩
                                have hX1 : Calls Tryz.prog 31 #[.slice (some ⟨wr.heap.size, 0, none⟩) 2 2, .slice (some ⟨wr.heap.size + 1, 0, none⟩) 2 2] ((wr.drew.alloc (.cells #[.int .i64 xak, .int .i64 xan, .string xas, .int .i64 yak, .int .i64 yan, .string yas] 28)).alloc (.cells #[.int .i64 xbk, .int .i64 xbn, .string xbs, .int .i64 ybk, .int .i64 ybn, .string ybs] 28)) _ := Hcmp.out _ _ _ ((Rd.lit wr.drew #[.int .i64 xak, .int .i64 xan, .string xas, .int .i64 yak, .int .i64 yan, .string yas] 28 3 2 wr.heap.size rfl rfl).alloc (.cells #[.int .i64 xbk, .int .i64 xbn, .string xbs, .int .i64 ybk, .int .i64 ybn, .string ybs] 28)) (Rd.lit (wr.drew.alloc (.cells #[.int .i64 xak, .int .i64 xan, .string xas, .int .i64 yak, .int .i64 yan, .string yas] 28)) #[.int .i64 xbk, .int .i64 xbn, .string xbs, .int .i64 ybk, .int .i64 ybn, .string ybs] 28 3 2 (wr.heap.size + 1) (by simp) rfl)
                                have hX2 : Calls Tryz.prog 31 #[.slice (some ⟨wr.heap.size + 1, 0, none⟩) 2 2, .slice (some ⟨wr.heap.size, 0, none⟩) 2 2] ((wr.drew.alloc (.cells #[.int .i64 xbk, .int .i64 xbn, .string xbs, .int .i64 ybk, .int .i64 ybn, .string ybs] 28)).alloc (.cells #[.int .i64 xak, .int .i64 xan, .string xas, .int .i64 yak, .int .i64 yan, .string yas] 28)) _ := Hcmp.out _ _ _ (Rd.lit (wr.drew.alloc (.cells #[.int .i64 xbk, .int .i64 xbn, .string xbs, .int .i64 ybk, .int .i64 ybn, .string ybs] 28)) #[.int .i64 xak, .int .i64 xan, .string xas, .int .i64 yak, .int .i64 yan, .string yas] 28 3 2 (wr.heap.size + 1) (by simp) rfl) ((Rd.lit wr.drew #[.int .i64 xbk, .int .i64 xbn, .string xbs, .int .i64 ybk, .int .i64 ybn, .string ybs] 28 3 2 wr.heap.size rfl rfl).alloc (.cells #[.int .i64 xak, .int .i64 xan, .string xas, .int .i64 yak, .int .i64 yan, .string yas] 28))
                                have HX1 := hide hX1
                                have HX2 := hide hX2
                                have HS := hide hS
                                have hH := hS _ (Below.refl _ _).drew
                                clear hX1 hX2 hS Hcmp a0 a1 a2 a3 a4 a5 a6 b0 b1 b2 b3 b4 b5 b6
                                refine wp_region_E 31 (fun w' => w'.cell? ⟨vb, q1, none⟩ = some (.slice (some ⟨ga, 0, none⟩) al ja) ∧ w'.cell? ⟨vb, q1 + 1, none⟩ = some (.slice (some ⟨gb, 0, none⟩) bl jb) ∧ w'.cell? ⟨ga, cn * 3, none⟩ = some (.int .i64 xak) ∧ w'.cell? ⟨ga, cn * 3 + 1, none⟩ = some (.int .i64 xan) ∧ w'.cell? ⟨ga, cn * 3 + 2, none⟩ = some (.string xas) ∧ w'.cell? ⟨ga, 0, none⟩ = some (.int .i64 yak) ∧ w'.cell? ⟨ga, 1, none⟩ = some (.int .i64 yan) ∧ w'.cell? ⟨ga, 2, none⟩ = some (.string yas) ∧ w'.cell? ⟨gb, cn * 3, none⟩ = some (.int .i64 xbk) ∧ w'.cell? ⟨gb, cn * 3 + 1, none⟩ = some (.int .i64 xbn) ∧ w'.cell? ⟨gb, cn * 3 + 2, none⟩ = some (.string xbs) ∧ w'.cell? ⟨gb, 0, none⟩ = some (.int .i64 ybk) ∧ w'.cell? ⟨gb, 1, none⟩ = some (.int .i64 ybn) ∧ w'.cell? ⟨gb, 2, none⟩ = some (.string ybs)) (by kernel_rfl) ?_
                                refine wpAnyE_take (i := 0) (v := ?_) (by kernel_rfl) rfl (by kernel_rfl) (by kernel_rfl) (by kernel_rfl) (fun _ _ _ h => h) (by rfl) hH ?_ ?_
                                rotate_left
                                · (rintro w' ⟨s0, s1, s2, s3, s4, s5, s6, s7, s8, s9, s10, s11, s12, s13⟩; go_simp; try with_reducible rfl)
                                simp only [Act.put, List.setIfInBounds_toArray, List.set_cons_zero, List.set_cons_succ, List.getElem_toArray, List.getElem_cons_zero, List.getElem_cons_succ]
                                refine wpAnyE_take (i := 1) (v := ?_) (by kernel_rfl) rfl (by kernel_rfl) (by kernel_rfl) (by kernel_rfl) (fun _ _ _ h => h) (by rfl) hH ?_ ?_
                                rotate_left
                                · (rintro w' ⟨s0, s1, s2, s3, s4, s5, s6, s7, s8, s9, s10, s11, s12, s13⟩; go_simp; try with_reducible rfl)
                                simp only [Act.put, List.setIfInBounds_toArray, List.set_cons_zero, List.set_cons_succ, List.getElem_toArray, List.getElem_cons_zero, List.getElem_cons_succ]
                                refine wpAnyE_take (i := 2) (v := ?_) (by kernel_rfl) rfl (by kernel_rfl) (by kernel_rfl) (by kernel_rfl) (fun _ _ _ h => h) (by rfl) hH ?_ ?_
                                rotate_left
                                · (rintro w' ⟨s0, s1, s2, s3, s4, s5, s6, s7, s8, s9, s10, s11, s12, s13⟩; go_simp; try with_reducible rfl)
                                simp only [Act.put, List.setIfInBounds_toArray, List.set_cons_zero, List.set_cons_succ, List.getElem_toArray, List.getElem_cons_zero, List.getElem_cons_succ]
                                refine wpAnyE_take (i := 3) (v := ?_) (by kernel_rfl) rfl (by kernel_rfl) (by kernel_rfl) (by kernel_rfl) (fun _ _ _ h => h) (by rfl) hH ?_ ?_
                                rotate_left
                                · (rintro w' ⟨s0, s1, s2, s3, s4, s5, s6, s7, s8, s9, s10, s11, s12, s13⟩; go_simp; try with_reducible rfl)
                                simp only [Act.put, List.setIfInBounds_toArray, List.set_cons_zero, List.set_cons_succ, List.getElem_toArray, List.getElem_cons_zero, List.getElem_cons_succ]
                                refine wpAnyE_take (i := 4) (v := ?_) (by kernel_rfl) rfl (by kernel_rfl) (by kernel_rfl) (by kernel_rfl) (fun _ _ _ h => h) (by rfl) hH ?_ ?_
                                rotate_left
                                · (rintro w' ⟨s0, s1, s2, s3, s4, s5, s6, s7, s8, s9, s10, s11, s12, s13⟩; go_simp; try with_reducible rfl)
                                simp only [Act.put, List.setIfInBounds_toArray, List.set_cons_zero, List.set_cons_succ, List.getElem_toArray, List.getElem_cons_zero, List.getElem_cons_succ]
                                refine wpAnyE_take (i := 5) (v := ?_) (by kernel_rfl) rfl (by kernel_rfl) (by kernel_rfl) (by kernel_rfl) (fun _ _ _ h => h) (by rfl) hH ?_ ?_
                                rotate_left
                                · (rintro w' ⟨s0, s1, s2, s3, s4, s5, s6, s7, s8, s9, s10, s11, s12, s13⟩; go_simp; try with_reducible rfl)
                                simp only [Act.put, List.setIfInBounds_toArray, List.set_cons_zero, List.set_cons_succ, List.getElem_toArray, List.getElem_cons_zero, List.getElem_cons_succ]
                                refine wpAnyE_take (i := 6) (v := ?_) (by kernel_rfl) rfl (by kernel_rfl) (by kernel_rfl) (by kernel_rfl) (fun _ _ _ h => h) (by rfl) hH ?_ ?_
                                rotate_left
                                · (rintro w' ⟨s0, s1, s2, s3, s4, s5, s6, s7, s8, s9, s10, s11, s12, s13⟩; go_simp; try with_reducible rfl)
                                simp only [Act.put, List.setIfInBounds_toArray, List.set_cons_zero, List.set_cons_succ, List.getElem_toArray, List.getElem_cons_zero, List.getElem_cons_succ]
                                refine wpAnyE_take (i := 7) (v := ?_) (by kernel_rfl) rfl (by kernel_rfl) (by kernel_rfl) (by kernel_rfl) (fun _ _ _ h => h) (by rfl) hH ?_ ?_
                                rotate_left
                                · (rintro w' ⟨s0, s1, s2, s3, s4, s5, s6, s7, s8, s9, s10, s11, s12, s13⟩; go_simp; try with_reducible rfl)
                                simp only [Act.put, List.setIfInBounds_toArray, List.set_cons_zero, List.set_cons_succ, List.getElem_toArray, List.getElem_cons_zero, List.getElem_cons_succ]
                                refine wpAnyE_take (i := 8) (v := ?_) (by kernel_rfl) rfl (by kernel_rfl) (by kernel_rfl) (by kernel_rfl) (fun _ _ _ h => h) (by rfl) hH ?_ ?_
                                rotate_left
                                · (rintro w' ⟨s0, s1, s2, s3, s4, s5, s6, s7, s8, s9, s10, s11, s12, s13⟩; go_simp; try with_reducible rfl)
                                simp only [Act.put, List.setIfInBounds_toArray, List.set_cons_zero, List.set_cons_succ, List.getElem_toArray, List.getElem_cons_zero, List.getElem_cons_succ]
                                refine wpAnyE_take (i := 9) (v := ?_) (by kernel_rfl) rfl (by kernel_rfl) (by kernel_rfl) (by kernel_rfl) (fun _ _ _ h => h) (by rfl) hH ?_ ?_
                                rotate_left
                                · (rintro w' ⟨s0, s1, s2, s3, s4, s5, s6, s7, s8, s9, s10, s11, s12, s13⟩; go_simp; try with_reducible rfl)
                                simp only [Act.put, List.setIfInBounds_toArray, List.set_cons_zero, List.set_cons_succ, List.getElem_toArray, List.getElem_cons_zero, List.getElem_cons_succ]
                                refine wpAnyE_take (i := 10) (v := ?_) (by kernel_rfl) rfl (by kernel_rfl) (by kernel_rfl) (by kernel_rfl) (fun _ _ _ h => h) (by rfl) hH ?_ ?_
                                rotate_left
                                · (rintro w' ⟨s0, s1, s2, s3, s4, s5, s6, s7, s8, s9, s10, s11, s12, s13⟩; go_simp; try with_reducible rfl)
                                simp only [Act.put, List.setIfInBounds_toArray, List.set_cons_zero, List.set_cons_succ, List.getElem_toArray, List.getElem_cons_zero, List.getElem_cons_succ]
                                refine wpAnyE_take (i := 11) (v := ?_) (by kernel_rfl) rfl (by kernel_rfl) (by kernel_rfl) (by kernel_rfl) (fun _ _ _ h => h) (by rfl) hH ?_ ?_
                                rotate_left
                                · (rintro w' ⟨s0, s1, s2, s3, s4, s5, s6, s7, s8, s9, s10, s11, s12, s13⟩; go_simp; try with_reducible rfl)
                                simp only [Act.put, List.setIfInBounds_toArray, List.set_cons_zero, List.set_cons_succ, List.getElem_toArray, List.getElem_cons_zero, List.getElem_cons_succ]
                                refine wpAnyE_take (i := 12) (v := ?_) (by kernel_rfl) rfl (by kernel_rfl) (by kernel_rfl) (by kernel_rfl) (fun _ _ _ h => h) (by rfl) hH ?_ ?_
                                rotate_left
                                · (rintro w' ⟨s0, s1, s2, s3, s4, s5, s6, s7, s8, s9, s10, s11, s12, s13⟩; go_simp; try with_reducible rfl)
                                simp only [Act.put, List.setIfInBounds_toArray, List.set_cons_zero, List.set_cons_succ, List.getElem_toArray, List.getElem_cons_zero, List.getElem_cons_succ]
                                refine wpAnyE_take (i := 13) (v := ?_) (by kernel_rfl) rfl (by kernel_rfl) (by kernel_rfl) (by kernel_rfl) (fun _ _ _ h => h) (by rfl) hH ?_ ?_
                                rotate_left
                                · (rintro w' ⟨s0, s1, s2, s3, s4, s5, s6, s7, s8, s9, s10, s11, s12, s13⟩; go_simp; try with_reducible rfl)
                                simp only [Act.put, List.setIfInBounds_toArray, List.set_cons_zero, List.set_cons_succ, List.getElem_toArray, List.getElem_cons_zero, List.getElem_cons_succ]
                                refine wpAnyE_take (i := 14) (v := ?_) (by kernel_rfl) rfl (by kernel_rfl) (by kernel_rfl) (by kernel_rfl) (fun _ _ _ h => h) (by rfl) hH ?_ ?_
                                rotate_left
                                · (rintro w' ⟨s0, s1, s2, s3, s4, s5, s6, s7, s8, s9, s10, s11, s12, s13⟩; go_simp; try with_reducible rfl)
                                simp only [Act.put, List.setIfInBounds_toArray, List.set_cons_zero, List.set_cons_succ, List.getElem_toArray, List.getElem_cons_zero, List.getElem_cons_succ]
                                refine wpAnyE_take (i := 16) (v := ?_) (by kernel_rfl) rfl (by kernel_rfl) (by kernel_rfl) (by kernel_rfl) (fun _ _ _ h => h) (by rfl) hH ?_ ?_
                                rotate_left
                                · (rintro w' ⟨s0, s1, s2, s3, s4, s5, s6, s7, s8, s9, s10, s11, s12, s13⟩; go_simp; try with_reducible rfl)
                                simp only [Act.put, List.setIfInBounds_toArray, List.set_cons_zero, List.set_cons_succ, List.getElem_toArray, List.getElem_cons_zero, List.getElem_cons_succ]
                                refine wpAnyE_take (i := 17) (v := ?_) (by kernel_rfl) rfl (by kernel_rfl) (by kernel_rfl) (by kernel_rfl) (fun _ _ _ h => h) (by rfl) hH ?_ ?_
                                rotate_left
                                · (rintro w' ⟨s0, s1, s2, s3, s4, s5, s6, s7, s8, s9, s10, s11, s12, s13⟩; go_simp; try with_reducible rfl)
                                simp only [Act.put, List.setIfInBounds_toArray, List.set_cons_zero, List.set_cons_succ, List.getElem_toArray, List.getElem_cons_zero, List.getElem_cons_succ]
                                refine wpAnyE_take (i := 18) (v := ?_) (by kernel_rfl) rfl (by kernel_rfl) (by kernel_rfl) (by kernel_rfl) (fun _ _ _ h => h) (by rfl) hH ?_ ?_
                                rotate_left
                                · (rintro w' ⟨s0, s1, s2, s3, s4, s5, s6, s7, s8, s9, s10, s11, s12, s13⟩; go_simp; try with_reducible rfl)
                                simp only [Act.put, List.setIfInBounds_toArray, List.set_cons_zero, List.set_cons_succ, List.getElem_toArray, List.getElem_cons_zero, List.getElem_cons_succ]
                                refine wpAnyE_take (i := 19) (v := ?_) (by kernel_rfl) rfl (by kernel_rfl) (by kernel_rfl) (by kernel_rfl) (fun _ _ _ h => h) (by rfl) hH ?_ ?_
                                rotate_left
                                · (rintro w' ⟨s0, s1, s2, s3, s4, s5, s6, s7, s8, s9, s10, s11, s12, s13⟩; go_simp; try with_reducible rfl)
                                simp only [Act.put, List.setIfInBounds_toArray, List.set_cons_zero, List.set_cons_succ, List.getElem_toArray, List.getElem_cons_zero, List.getElem_cons_succ]
                                refine wpAnyE_take (i := 20) (v := ?_) (by kernel_rfl) rfl (by kernel_rfl) (by kernel_rfl) (by kernel_rfl) (fun _ _ _ h => h) (by rfl) hH ?_ ?_
                                rotate_left
                                · (rintro w' ⟨s0, s1, s2, s3, s4, s5, s6, s7, s8, s9, s10, s11, s12, s13⟩; go_simp; try with_reducible rfl)
                                simp only [Act.put, List.setIfInBounds_toArray, List.set_cons_zero, List.set_cons_succ, List.getElem_toArray, List.getElem_cons_zero, List.getElem_cons_succ]
                                refine wpAnyE_take (i := 21) (v := ?_) (by kernel_rfl) rfl (by kernel_rfl) (by kernel_rfl) (by kernel_rfl) (fun _ _ _ h => h) (by rfl) hH ?_ ?_
                                rotate_left
                                · (rintro w' ⟨s0, s1, s2, s3, s4, s5, s6, s7, s8, s9, s10, s11, s12, s13⟩; go_simp; try with_reducible rfl)
                                simp only [Act.put, List.setIfInBounds_toArray, List.set_cons_zero, List.set_cons_succ, List.getElem_toArray, List.getElem_cons_zero, List.getElem_cons_succ]
                                refine wpAnyE_take (i := 22) (v := ?_) (by kernel_rfl) rfl (by kernel_rfl) (by kernel_rfl) (by kernel_rfl) (fun _ _ _ h => h) (by rfl) hH ?_ ?_
                                rotate_left
                                · (rintro w' ⟨s0, s1, s2, s3, s4, s5, s6, s7, s8, s9, s10, s11, s12, s13⟩; go_simp; try with_reducible rfl)
                                simp only [Act.put, List.setIfInBounds_toArray, List.set_cons_zero, List.set_cons_succ, List.getElem_toArray, List.getElem_cons_zero, List.getElem_cons_succ]
                                refine wpAnyE_take (i := 23) (v := ?_) (by kernel_rfl) rfl (by kernel_rfl) (by kernel_rfl) (by kernel_rfl) (fun _ _ _ h => h) (by rfl) hH ?_ ?_
                                rotate_left
                                · (rintro w' ⟨s0, s1, s2, s3, s4, s5, s6, s7, s8, s9, s10, s11, s12, s13⟩; go_simp; try with_reducible rfl)
                                simp only [Act.put, List.setIfInBounds_toArray, List.set_cons_zero, List.set_cons_succ, List.getElem_toArray, List.getElem_cons_zero, List.getElem_cons_succ]
                                refine wpAnyE_take (i := 24) (v := ?_) (by kernel_rfl) rfl (by kernel_rfl) (by kernel_rfl) (by kernel_rfl) (fun _ _ _ h => h) (by rfl) hH ?_ ?_
                                rotate_left
                                · (rintro w' ⟨s0, s1, s2, s3, s4, s5, s6, s7, s8, s9, s10, s11, s12, s13⟩; go_simp; try with_reducible rfl)
                                simp only [Act.put, List.setIfInBounds_toArray, List.set_cons_zero, List.set_cons_succ, List.getElem_toArray, List.getElem_cons_zero, List.getElem_cons_succ]
                                refine wpAnyE_take (i := 25) (v := ?_) (by kernel_rfl) rfl (by kernel_rfl) (by kernel_rfl) (by kernel_rfl) (fun _ _ _ h => h) (by rfl) hH ?_ ?_
                                rotate_left
                                · (rintro w' ⟨s0, s1, s2, s3, s4, s5, s6, s7, s8, s9, s10, s11, s12, s13⟩; go_simp; try with_reducible rfl)
                                simp only [Act.put, List.setIfInBounds_toArray, List.set_cons_zero, List.set_cons_succ, List.getElem_toArray, List.getElem_cons_zero, List.getElem_cons_succ]
                                refine wpAnyE_take (i := 26) (v := ?_) (by kernel_rfl) rfl (by kernel_rfl) (by kernel_rfl) (by kernel_rfl) (fun _ _ _ h => h) (by rfl) hH ?_ ?_
                                rotate_left
                                · (rintro w' ⟨s0, s1, s2, s3, s4, s5, s6, s7, s8, s9, s10, s11, s12, s13⟩; go_simp; try with_reducible rfl)
                                simp only [Act.put, List.setIfInBounds_toArray, List.set_cons_zero, List.set_cons_succ, List.getElem_toArray, List.getElem_cons_zero, List.getElem_cons_succ]
                                refine wpAnyE_take (i := 27) (v := ?_) (by kernel_rfl) rfl (by kernel_rfl) (by kernel_rfl) (by kernel_rfl) (fun _ _ _ h => h) (by rfl) hH ?_ ?_
                                rotate_left
                                · (rintro w' ⟨s0, s1, s2, s3, s4, s5, s6, s7, s8, s9, s10, s11, s12, s13⟩; go_simp; try with_reducible rfl)
                                simp only [Act.put, List.setIfInBounds_toArray, List.set_cons_zero, List.set_cons_succ, List.getElem_toArray, List.getElem_cons_zero, List.getElem_cons_succ]
                                refine wpAnyE_take (i := 28) (v := ?_) (by kernel_rfl) rfl (by kernel_rfl) (by kernel_rfl) (by kernel_rfl) (fun _ _ _ h => h) (by rfl) hH ?_ ?_
                                rotate_left
                                · (rintro w' ⟨s0, s1, s2, s3, s4, s5, s6, s7, s8, s9, s10, s11, s12, s13⟩; go_simp; try with_reducible rfl)
                                simp only [Act.put, List.setIfInBounds_toArray, List.set_cons_zero, List.set_cons_succ, List.getElem_toArray, List.getElem_cons_zero, List.getElem_cons_succ]
                                refine wpAnyE_two (i := 15) (j := 29) (by kernel_rfl) rfl rfl (by rfl) (by rfl) (fun K hK => ?_) (fun K hK => ?_)
                                · refine oper_build2 rfl rfl rfl ?_
                                  refine hK _ _ (.inr (HS.out _ (((Below.refl _ _).drew.alloc (Nat.le_refl _) _)))) ?_
                                  clear hK K
                                  have hH := HS.out (wr.drew.alloc (.cells #[.int .i64 xak, .int .i64 xan, .string xas, .int .i64 yak, .int .i64 yan, .string yas] 28)) (((Below.refl _ _).drew.alloc (Nat.le_refl _) _))
                                  simp only [Act.put, List.setIfInBounds_toArray, List.set_cons_zero, List.set_cons_succ, List.getElem_toArray, List.getElem_cons_zero, List.getElem_cons_succ]
                                  refine wpAnyE_one (i := 29) (by kernel_rfl) rfl (by rfl) fun K hK => ?_
                                  refine oper_build2 rfl rfl rfl ?_
                                  have hbb : Below wr.heap.size wr ((wr.drew.alloc (.cells #[.int .i64 xak, .int .i64 xan, .string xas, .int .i64 yak, .int .i64 yan, .string yas] 28)).alloc (.cells #[.int .i64 xbk, .int .i64 xbn, .string xbs, .int .i64 ybk, .int .i64 ybn, .string ybs] 28)) := ((Below.refl _ _).drew.alloc (Nat.le_refl _) _).alloc (by simp) _
                                  refine hK _ _ (.inr (HS.out _ hbb)) ?_
                                  clear hK K
                                  simp only [Act.put, List.setIfInBounds_toArray, List.set_cons_zero, List.set_cons_succ, List.getElem_toArray, List.getElem_cons_zero, List.getElem_cons_succ]
                                  have hz1 : (wr.drew.alloc (.cells #[.int .i64 xak, .int .i64 xan, .string xas, .int .i64 yak, .int .i64 yan, .string yas] 28)).heap.size = wr.heap.size + 1 := by simp
                                  have hz0 : wr.drew.heap.size = wr.heap.size := rfl
                                  rw [hz1, hz0]
                                  refine wpAnyE_one (i := 30) (by kernel_rfl) rfl (by rfl) fun K hK => ?_
                                  refine oper_call (f := 31) (args := [.tmp 218, .tmp 232]) (vs := [.slice (some ⟨wr.heap.size, 0, none⟩) 2 2, .slice (some ⟨wr.heap.size + 1, 0, none⟩) 2 2]) rfl rfl (enter31 _ _) HX1.out ?_
                                  rintro e w12 ⟨rfl, hb11⟩
                                  refine ⟨_, rfl, ?_⟩
                                  have hb12 : Below wr.heap.size wr w12 := below_then hbb hbb.size hb11
                                  refine hK _ _ (.inr (HS.out _ hb12)) ?_
                                  clear hK K
                                  simp only [Act.put, List.setIfInBounds_toArray, List.set_cons_zero, List.set_cons_succ, List.getElem_toArray, List.getElem_cons_zero, List.getElem_cons_succ]
                                  refine wpAnyE_one (i := 31) (by kernel_rfl) rfl (by rfl) fun K hK => ?_
                                  refine oper_assign (v := .int .i64 (-1)) rfl rfl ?_
                                  refine hK _ _ (.inl rfl) ?_
                                  clear hK K
                                  simp only [Act.put, List.setIfInBounds_toArray, List.set_cons_zero, List.set_cons_succ, List.getElem_toArray, List.getElem_cons_zero, List.getElem_cons_succ]
                                  refine wpAnyE_done (by kernel_rfl) ?_ _
                                  have HB12 := hide (below_then HB9.out HB9.out.size hb12)
                                  have Ham3 := hide (Ham2.out w12 hb12)
                                  have b0 := (HS.out w12 hb12).2.1
                                  clear hb12 hb11 Ham2 HS HX1 HX2 hH hbb hz1 hz0
                                  go_wp2_with fail
                                  refine Ham3.out.mono ?_
                                  rintro e w13 ⟨rfl, hb13⟩
                                  have HB13 := hide (below_then HB12.out HB12.out.size hb13)
                                  clear hb13 Ham3 b0
                                  go_wp2_with fail
                                  exact ⟨⟨q1 + 1 + 1, by omega, by omega, by go_num, HB13⟩, by simp [intOf]; omega⟩
                                · refine oper_build2 rfl rfl rfl ?_
                                  refine hK _ _ (.inr (HS.out _ (((Below.refl _ _).drew.alloc (Nat.le_refl _) _)))) ?_
                                  clear hK K
                                  have hH := HS.out (wr.drew.alloc (.cells #[.int .i64 xbk, .int .i64 xbn, .string xbs, .int .i64 ybk, .int .i64 ybn, .string ybs] 28)) (((Below.refl _ _).drew.alloc (Nat.le_refl _) _))
                                  simp only [Act.put, List.setIfInBounds_toArray, List.set_cons_zero, List.set_cons_succ, List.getElem_toArray, List.getElem_cons_zero, List.getElem_cons_succ]
                                  refine wpAnyE_one (i := 15) (by kernel_rfl) rfl (by rfl) fun K hK => ?_
                                  refine oper_build2 rfl rfl rfl ?_
                                  have hbb : Below wr.heap.size wr ((wr.drew.alloc (.cells #[.int .i64 xbk, .int .i64 xbn, .string xbs, .int .i64 ybk, .int .i64 ybn, .string ybs] 28)).alloc (.cells #[.int .i64 xak, .int .i64 xan, .string xas, .int .i64 yak, .int .i64 yan, .string yas] 28)) := ((Below.refl _ _).drew.alloc (Nat.le_refl _) _).alloc (by simp) _
                                  refine hK _ _ (.inr (HS.out _ hbb)) ?_
                                  clear hK K
                                  simp only [Act.put, List.setIfInBounds_toArray, List.set_cons_zero, List.set_cons_succ, List.getElem_toArray, List.getElem_cons_zero, List.getElem_cons_succ]
                                  have hz1 : (wr.drew.alloc (.cells #[.int .i64 xbk, .int .i64 xbn, .string xbs, .int .i64 ybk, .int .i64 ybn, .string ybs] 28)).heap.size = wr.heap.size + 1 := by simp
                                  have hz0 : wr.drew.heap.size = wr.heap.size := rfl
                                  rw [hz1, hz0]
                                  refine wpAnyE_one (i := 30) (by kernel_rfl) rfl (by rfl) fun K hK => ?_
                                  refine oper_call (f := 31) (args := [.tmp 218, .tmp 232]) (vs := [.slice (some ⟨wr.heap.size + 1, 0, none⟩) 2 2, .slice (some ⟨wr.heap.size, 0, none⟩) 2 2]) rfl rfl (enter31 _ _) HX2.out ?_
                                  rintro e w12 ⟨rfl, hb11⟩
                                  refine ⟨_, rfl, ?_⟩
                                  have hb12 : Below wr.heap.size wr w12 := below_then hbb hbb.size hb11
                                  refine hK _ _ (.inr (HS.out _ hb12)) ?_
                                  clear hK K
                                  simp only [Act.put, List.setIfInBounds_toArray, List.set_cons_zero, List.set_cons_succ, List.getElem_toArray, List.getElem_cons_zero, List.getElem_cons_succ]
                                  refine wpAnyE_one (i := 31) (by kernel_rfl) rfl (by rfl) fun K hK => ?_
                                  refine oper_assign (v := .int .i64 (-1)) rfl rfl ?_
                                  refine hK _ _ (.inl rfl) ?_
                                  clear hK K
                                  simp only [Act.put, List.setIfInBounds_toArray, List.set_cons_zero, List.set_cons_succ, List.getElem_toArray, List.getElem_cons_zero, List.getElem_cons_succ]
                                  refine wpAnyE_done (by kernel_rfl) ?_ _
                                  have HB12 := hide (below_then HB9.out HB9.out.size hb12)
                                  have Ham3 := hide (Ham2.out w12 hb12)
                                  have b0 := (HS.out w12 hb12).2.1
                                  clear hb12 hb11 Ham2 HS HX1 HX2 hH hbb hz1 hz0
                                  go_wp2_with fail
                                  refine Ham3.out.mono ?_
                                  rintro e w13 ⟨rfl, hb13⟩
                                  have HB13 := hide (below_then HB12.out HB12.out.size hb13)
                                  clear hb13 Ham3 b0
                                  go_wp2_with fail
                                  exact ⟨⟨q1 + 1 + 1, by omega, by omega, by go_num, HB13⟩, by simp [intOf]; omega⟩
                              · have hqe : ¬ (qq : Int) < (xl : Int) := by omega
                                have HKE := hide (below_then HK9.out HK9.out.size HB9.out)
                                clear HX9 HB9
                                go_wp2_with fail
                                exact ⟨⟨r + 1, hrl, by go_num, HKE⟩, by simp [intOf]; omega⟩
              · have hri : ¬ (r : Int) < (tn : Int) := by omega
                go_wp2_with fail
                exact ⟨⟨k + 1, hkl, by go_num, HK⟩, by simp [intOf]; omega⟩
        · have hki : ¬ (k : Int) < (xn : Int) := by omega
          have HBn := hide (below_then HB7.out HB7.out.size HK.out)
          clear HK HB7 HX7 Hnb7 HQ7
          go_wp2_with fail
          exact ⟨⟨i + 1, hlt, by go_num, HBn⟩, by simp [intOf]; omega⟩
    · have hto := told_ok wr (HT.out.below (below_then S3.out.b S3.out.le HB.out)) (Nat.le_trans HT.out.three (below_then S3.out.b S3.out.le HB.out).size)
      have Hto := hide hto
      have HSB := hide (below_then S3.out.b S3.out.le HB.out)
      have hii : ¬ (i : Int) < (dn : Int) := by omega
      clear hto S3 N3 Hns HB Huq
      go_wp2_with fail
      refine Hto.out.mono ?_
      rintro e w9 ⟨rfl, hb9⟩
      go_wp2_with fail
      go_ret
      exact ⟨rfl, below_then HSB.out HSB.out.size hb9⟩
end Go.Proofs.YtekokogmnhlchaaGreatDoor
