import Derived.Test.YtekokogmnhlchaaGreatDoorD5
import Derived.Test.YtekokogmnhlchaaGreatDoorB4
import Derived.Test.YtekokogmnhlchaaGreatDoorD3
import Derived.Test.YtekokogmnhlchaaGreatDoorB1
set_option linter.unusedSimpArgs false
set_option linter.unusedVariables false
namespace Go.Proofs.YtekokogmnhlchaaGreatDoor
open Go.RowKit
theorem valsOf_ok {c : Int} {q : List V} (hq : ∀ k, okV (col q k)) : ∀ v ∈ valsOf c q, okV v := fun v hv => by
  unfold valsOf at hv
  split at hv
  · simp at hv; subst hv; exact hq 0
  · simp at hv
    rcases hv with rfl | rfl
    · exact hq _
    · exact hq 0
theorem scanK_lt {i : Nat} {c : Int} {r u : List V} (hr : ∀ k, okV (col r k)) (hu : ∀ k, okV (col u k)) (h : cmpB (scanK i c r) (scanK i c u) < 0) : cmpVs (valsOf c r) (valsOf c u) = -1 := by
  rw [scanK, scanK, cmpB_append] at h
  exact cmpVs_lt (valsOf_ok hr) (valsOf_ok hu) h
/-- A table's rows, in the order of their keys. -/
structure WalkL (T : Tb) (i : Nat) (R : List (List V)) : Prop where
  srt : R.Pairwise fun a b => cmpB (scanK i 0 a) (scanK i 0 b) < 0
  mem : ∀ r, r ∈ R ↔ r ∈ T.rows
theorem WalkL.ext {T U : Tb} {i : Nat} {R S : List (List V)} (h : WalkL T i R) (k : WalkL U i S) (hm : ∀ r, r ∈ T.rows ↔ r ∈ U.rows) : R = S :=
  srt_ext h.srt k.srt fun r => by rw [h.mem, k.mem, hm]
theorem srt_exists {α : Type} (f : α → List UInt8) : ∀ (l : List α), l.Pairwise (fun a b => f a ≠ f b) → ∃ R : List α, R.Pairwise (fun a b => cmpB (f a) (f b) < 0) ∧ ∀ x, x ∈ R ↔ x ∈ l
  | [], _ => ⟨[], List.Pairwise.nil, fun _ => Iff.rfl⟩
  | a :: l, h => by
    obtain ⟨h1, h2⟩ := List.pairwise_cons.1 h
    obtain ⟨R, hs, hm⟩ := srt_exists f l h2
    refine ⟨R.filter (fun x => decide (cmpB (f x) (f a) < 0)) ++ a :: R.filter (fun x => decide (¬ cmpB (f x) (f a) < 0)), ?_, fun x => ?_⟩
    · rw [List.pairwise_append]
      refine ⟨hs.filter _, List.pairwise_cons.2 ⟨fun y hy => ?_, hs.filter _⟩, fun x hx y hy => ?_⟩
      · rw [List.mem_filter, decide_eq_true_eq] at hy
        have hne := h1 y ((hm y).1 hy.1)
        have h3 := cmpB_swap (f a) (f y)
        rcases cmpB_three (f a) (f y) with h4 | h4 | h4
        · omega
        · exact absurd (cmpB_zero h4) hne
        · have := hy.2; omega
      · rw [List.mem_filter, decide_eq_true_eq] at hx
        rcases List.mem_cons.1 hy with rfl | hy
        · exact hx.2
        · rw [List.mem_filter, decide_eq_true_eq] at hy
          have hne := h1 y ((hm y).1 hy.1)
          have h3 := cmpB_swap (f a) (f y)
          have : cmpB (f a) (f y) < 0 := by
            rcases cmpB_three (f a) (f y) with h4 | h4 | h4
            · omega
            · exact absurd (cmpB_zero h4) hne
            · have := hy.2; omega
          exact cmpB_trans hx.2 this
    · rw [List.mem_append, List.mem_cons, List.mem_filter, List.mem_filter, List.mem_cons, hm]
      by_cases hx : cmpB (f x) (f a) < 0
      · simp only [hx, decide_true, not_true, decide_false, Bool.false_eq_true, and_false, and_true, or_false]
        exact ⟨fun h => h.elim .inr .inl, fun h => h.elim .inr .inl⟩
      · simp only [hx, decide_false, not_false_iff, decide_true, Bool.false_eq_true, and_false, and_true, false_or]
theorem srt_drop {α : Type} (f : α → List UInt8) {l : List α} (h : l.Pairwise fun a b => cmpB (f a) (f b) < 0) (m : Nat) (hm : m < l.length) (x : α) : x ∈ l.drop m ↔ x ∈ l ∧ ¬ cmpB (f x) (f l[m]) < 0 := by
  rw [List.pairwise_iff_getElem] at h
  constructor
  · intro hx
    refine ⟨List.mem_of_mem_drop hx, fun hlt => ?_⟩
    obtain ⟨j, hj, rfl⟩ := List.getElem_of_mem hx
    rw [List.length_drop] at hj
    rw [List.getElem_drop] at hlt
    rcases Nat.eq_zero_or_pos j with rfl | hp
    · simp [cmpB_refl] at hlt
    · have h1 := h m (m + j) hm (by omega) (by omega)
      have h2 := cmpB_swap (f l[m]) (f l[m + j])
      omega
  · rintro ⟨hx, hnlt⟩
    obtain ⟨j, hj, rfl⟩ := List.getElem_of_mem hx
    rcases Nat.lt_or_ge j m with hjm | hjm
    · exact absurd (h j m hj hm hjm) hnlt
    · rw [List.mem_iff_getElem]
      exact ⟨j - m, by rw [List.length_drop]; omega, by rw [List.getElem_drop]; congr 1; omega⟩
section
variable {D : List Tb} {i : Nat} {T : Tb}
theorem bound_fit {v : V} (hl : (keyV v).length ≤ 28) : boundB (aheadB i 0) v = aheadB i 0 ++ keyV v := by
  obtain ⟨t, ht⟩ := boundB_pre i 0 v
  have : boundB (aheadB i 0) v = (aheadB i 0 ++ keyV v).take 58 := rfl
  rw [this, List.take_of_length_le]
  have := aheadB_len i 0
  rw [List.length_append]; omega
theorem scanK_key (i : Nat) (r : List V) : scanK i 0 r = aheadB i 0 ++ (keyV (col r 0) ++ []) := by simp [scanK, valsOf, keyL]
theorem in_all (ho : Ok D) (hT : D[i]? = some T) {r : List V} (hr : r ∈ T.rows) : cmpB (scanK i 0 r) (toB (aheadB i 0) nothing) < 0 := by
  have h1 : toB (aheadB i 0) nothing = aheadB i 0 ++ [255] := rfl
  rw [h1, scanK_key, cmpB_append]
  exact keyV_lt_255 _ (ho.val hT hr 0).1 _ _
theorem walk_first (ho : Ok D) (hT : D[i]? = some T) {R : List (List V)} (h : ScanL T i 0 nothing nothing R) : WalkL T i R := by
  refine ⟨h.srt, fun r => ⟨fun hr => ((h.mem r).1 hr).1, fun hr => (h.mem r).2 ⟨hr, ?_, .inr (in_all ho hT hr)⟩⟩⟩
  rw [bound_fit (by decide), scanK_key, cmpB_append]
  have h1 := keyV_nothing_le (col r 0) (ho.val hT hr 0).1 []
  have h2 := cmpB_swap (keyV (col r 0) ++ []) [1]
  have h3 : keyV nothing = [1] := by decide
  rw [h3]
  omega
theorem walk_rest (ho : Ok D) (hT : D[i]? = some T) {R S : List (List V)} (h : WalkL T i R) (m : Nat) (hm : m < R.length) (hs : ScanL T i 0 (col R[m] 0) nothing S) : S = R.drop m := by
  have hmT : R[m] ∈ T.rows := (h.mem _).1 (List.getElem_mem hm)
  refine srt_ext hs.srt (h.srt.sublist (List.drop_sublist m R)) fun r => ?_
  rw [hs.mem, srt_drop (scanK i 0) h.srt m hm, h.mem, bound_fit ((ho.fit i T hT _ hmT).col (ho.right i T hT) 0).2]
  have e : scanK i 0 R[m] = aheadB i 0 ++ keyV (col R[m] 0) := by rw [scanK_key, List.append_nil]
  rw [e]
  constructor
  · rintro ⟨h1, h2, _⟩
    exact ⟨h1, h2⟩
  · rintro ⟨h1, h2⟩
    exact ⟨h1, h2, .inr (in_all ho hT h1)⟩
theorem walk_exists (ho : Ok D) (hT : D[i]? = some T) : ∃ R, WalkL T i R := by
  have hk := ho.keys i T hT
  obtain ⟨R, h1, h2⟩ := srt_exists (scanK i 0) T.rows (by
    rw [List.pairwise_iff_getElem] at hk ⊢
    intro a b ha hb hab he
    have := scanK_inj (c := 0) ho hT (List.getElem_mem ha) (List.getElem_mem hb) he
    exact hk a b ha hb hab (by rw [this]))
  exact ⟨R, h1, h2⟩
theorem WalkL.nodup {R : List (List V)} (h : WalkL T i R) : R.Nodup := h.srt.imp fun {a b} h he => by rw [he, cmpB_refl] at h; omega
theorem WalkL.len {R : List (List V)} (ho : Ok D) (hT : D[i]? = some T) (h : WalkL T i R) : R.length = T.rows.length := by
  have h1 : T.rows.Nodup := (ho.keys i T hT).imp fun {a b} h he => h (by rw [he])
  exact Nat.le_antisymm (nodup_len h.nodup fun x hx => (h.mem x).1 hx) (nodup_len h1 fun x hx => (h.mem x).2 hx)
theorem WalkL.lt {R : List (List V)} (ho : Ok D) (hT : D[i]? = some T) (h : WalkL T i R) {a b : Nat} (hb : b < R.length) (hab : a < b) : cmpVs [col R[a] 0] [col R[b] 0] = -1 := by
  have h1 := h.srt
  rw [List.pairwise_iff_getElem] at h1
  exact scanK_lt (c := 0) (ho.val hT ((h.mem _).1 (List.getElem_mem _))) (ho.val hT ((h.mem _).1 (List.getElem_mem _))) (h1 a b (by omega) hb hab)
end
end Go.Proofs.YtekokogmnhlchaaGreatDoor
namespace Go.Proofs.YtekokogmnhlchaaGreatDoor
open Go.RowKit
/-! ## One table's rows, while others are turned -/
theorem findT_step : ∀ {D : List Tb} {nm : ByteArray} {k i : Nat} {T : Tb}, findT D nm k = some (i, T) → ∀ m, findT D nm (k + m) = some (i + m, T)
  | [], _, _, _, _, h, _ => by simp [findT] at h
  | U :: D, nm, k, i, T, h, m => by
    rw [findT] at h ⊢
    split at h
    · rename_i hn
      simp only [Option.some.injEq, Prod.mk.injEq] at h
      rw [if_pos hn, h.1, h.2]
    · rename_i hn
      rw [if_neg hn]
      have := findT_step h m
      rw [show k + m + 1 = k + 1 + m by omega]
      exact this
theorem findT_app : ∀ {D : List Tb} {nm : ByteArray} {k i : Nat} {T : Tb} (E : List Tb), findT D nm k = some (i, T) → findT (D ++ E) nm k = some (i, T)
  | [], _, _, _, _, _, h => by simp [findT] at h
  | U :: D, nm, k, i, T, E, h => by
    rw [List.cons_append, findT]
    rw [findT] at h
    split at h
    · rename_i hn; rw [if_pos hn]; exact h
    · rename_i hn; rw [if_neg hn]; exact findT_app E h
theorem findT_set : ∀ {D : List Tb} {nm : ByteArray} {k j : Nat} {T' U : Tb}, D[j]? = some T' → T'.s.name ≠ nm → U.s.name ≠ nm → findT (D.set j U) nm k = findT D nm k
  | [], _, _, _, _, _, h, _, _ => by simp at h
  | W :: D, nm, k, 0, T', U, h, h1, h2 => by
    simp at h
    subst h
    rw [List.set_cons_zero, findT, if_neg h2, findT, if_neg h1]
  | W :: D, nm, k, j + 1, T', U, h, h1, h2 => by
    rw [List.set_cons_succ, findT, findT, findT_set (by simpa using h) h1 h2]
theorem findT_set_self : ∀ {D : List Tb} {nm : ByteArray} {k i : Nat} {T U : Tb}, findT D nm k = some (i, T) → U.s.name = nm → findT (D.set (i - k) U) nm k = some (i, U)
  | [], _, _, _, _, _, h, _ => by simp [findT] at h
  | W :: D, nm, k, i, T, U, h, hU => by
    rw [findT] at h
    split at h
    · simp only [Option.some.injEq, Prod.mk.injEq] at h
      obtain ⟨rfl, rfl⟩ := h
      simp [findT, hU]
    · rename_i hn
      have hki := (findT_some h).1
      have := findT_set_self h hU
      rw [show i - k = (i - (k + 1)) + 1 by omega, List.set_cons_succ, findT, if_neg hn]
      exact this
theorem findT_self {D : List Tb} {nm : ByteArray} {i : Nat} {T U : Tb} (h : findT D nm 0 = some (i, T)) (hU : U.s.name = nm) : findT (D.set i U) nm 0 = some (i, U) := findT_set_self (k := 0) h hU
theorem putD_other {D : List Tb} {nm nm' : ByteArray} (h : nm' ≠ nm) (v : V) (row : Option (List V)) : findT (putD D nm' v row) nm 0 = findT D nm 0 := by
  unfold putD
  cases hf : findT D nm' 0 with
  | none => rfl
  | some p =>
    obtain ⟨j, T'⟩ := p
    obtain ⟨hj, hn⟩ := findT_at hf
    exact findT_set hj (by rw [hn]; exact h) (by show T'.s.name ≠ nm; rw [hn]; exact h)
theorem cre_keeps {D : List Tb} {nm : ByteArray} {p : Nat × Tb} (h : findT D nm 0 = some p) (s : Sch) : findT (creD D s) nm 0 = some p := by
  unfold creD
  split
  · exact findT_app _ h
  · exact h
theorem step_keeps {D : List Tb} {nm : ByteArray} {p : Nat × Tb} (h : findT D nm 0 = some p) (o : OpV) (ho : o.tb ≠ nm) : findT (runStep D o) nm 0 = some p := by
  unfold runStep
  split
  · exact cre_keeps h _
  · split
    · unfold insD; split
      · rw [putD_other ho]; exact h
      · exact h
    · split
      · unfold updD; split
        · rw [putD_other ho]; exact h
        · exact h
      · split
        · unfold delD; split
          · rw [putD_other ho]; exact h
          · exact h
        · exact h
/-- Operations on other tables. -/
def runOthers (D : List Tb) (nm : ByteArray) (l : List OpV) : List Tb := l.foldl (fun D o => if o.tb = nm then D else runStep D o) D
theorem runOthers_snoc (D : List Tb) (nm : ByteArray) (l : List OpV) (o : OpV) : runOthers D nm (l ++ [o]) = if o.tb = nm then runOthers D nm l else runStep (runOthers D nm l) o := by simp [runOthers]
theorem others_keep {nm : ByteArray} {p : Nat × Tb} : ∀ (l : List OpV) {D : List Tb}, findT D nm 0 = some p → findT (runOthers D nm l) nm 0 = some p
  | [], _, h => h
  | o :: l, D, h => by
    show findT (runOthers (if o.tb = nm then D else runStep D o) nm l) nm 0 = some p
    refine others_keep l ?_
    split
    · exact h
    · rename_i ho; exact step_keeps h o ho
theorem names_found {D : List Tb} {nm : ByteArray} {i : Nat} {T : Tb} (hT : D[i]? = some T) (ho : Ok D) (hn : T.s.name = nm) : findT D nm 0 = some (i, T) := by
  subst hn
  have := findT_go (nm := T.s.name) (j := 0) (k := i) (D := D) (T := T) (fun j hj U hU e => by
    have := ho.names j i U T hU hT e
    omega) hT rfl
  rwa [Nat.zero_add] at this
/-! ## Single values -/
def UqT (T : Tb) : Prop := ∀ x ∈ T.s.ixs, x.uniq = true → ∀ r ∈ T.rows, ∀ u ∈ T.rows, (col r x.col.toNat).k ≠ 0 → col u x.col.toNat = col r x.col.toNat → col u 0 = col r 0
def UqD (D : List Tb) : Prop := ∀ (i : Nat) T, D[i]? = some T → UqT T
theorem hurt_no {T : Tb} {row : List V} (h : hurtB T row = false) {x : Ix} (hx : x ∈ T.s.ixs) (hu : x.uniq = true) (hk : (col row x.col.toNat).k ≠ 0) {r : List V} (hr : r ∈ T.rows) (he : col r x.col.toNat = col row x.col.toNat) : col r 0 = col row 0 := by
  by_cases h0 : col r 0 = col row 0
  · exact h0
  · exfalso
    have : hurtB T row = true := by
      rw [hurtB, List.any_eq_true]
      refine ⟨x, hx, ?_⟩
      simp only [hu, Bool.true_and, Bool.and_eq_true, decide_eq_true_eq, List.any_eq_true]
      exact ⟨hk, r, hr, h0, he⟩
    rw [h] at this
    cases this
theorem hurt_of {T : Tb} {row : List V} (h : ∀ x ∈ T.s.ixs, x.uniq = true → (col row x.col.toNat).k ≠ 0 → ∀ r ∈ T.rows, col r x.col.toNat = col row x.col.toNat → col r 0 = col row 0) : hurtB T row = false := by
  cases hb : hurtB T row with
  | false => rfl
  | true =>
    exfalso
    rw [hurtB, List.any_eq_true] at hb
    obtain ⟨x, hx, hb⟩ := hb
    simp only [Bool.and_eq_true, decide_eq_true_eq, List.any_eq_true] at hb
    obtain ⟨hu, hk, r, hr, h0, he⟩ := hb
    exact h0 (h x hx hu hk r hr he)
theorem UqT.lay {T : Tb} {v0 : V} {row : Option (List V)} (h : UqT T) (hr : ∀ r, row = some r → col r 0 = v0 ∧ hurtB T r = false) : UqT (layT T v0 row) := by
  intro x hx hu r hr1 u hu1 hk he
  have hx' : x ∈ T.s.ixs := hx
  rcases layT_mem.1 hr1 with ⟨a1, a2⟩ | a1
  · rcases layT_mem.1 hu1 with ⟨b1, b2⟩ | b1
    · exact h x hx' hu r a1 u b1 hk he
    · exact (hurt_no (hr u b1).2 hx' hu (by rw [he]; exact hk) a1 he.symm).symm
  · rcases layT_mem.1 hu1 with ⟨b1, b2⟩ | b1
    · exact hurt_no (hr r a1).2 hx' hu hk b1 he
    · rw [a1] at b1
      rw [Option.some.inj b1]
theorem UqD.set {D : List Tb} {i : Nat} {T U : Tb} (h : UqD D) (hT : D[i]? = some T) (hU : UqT U) : UqD (D.set i U) := by
  intro j W hW
  rw [set_get hT] at hW
  split at hW
  · rw [← Option.some.inj hW]; exact hU
  · exact h j W hW
theorem UqD.nil : UqD [] := fun i T h => by simp at h
theorem UqD.cre {D : List Tb} (h : UqD D) (s : Sch) : UqD (creD D s) := by
  unfold creD
  split
  · intro j W hW
    rw [app_get] at hW
    split at hW
    · obtain rfl := Option.some.inj hW
      intro x _ _ r hr
      simp at hr
    · exact h j W hW
  · exact h
theorem ins_facts {D : List Tb} {nm : ByteArray} {row : List V} (h : insE D nm row = 0) : ∃ i T, findT D nm 0 = some (i, T) ∧ fitsB T.s row = true ∧ wasT T (col row 0) = none ∧ T.rows.length < 64 ∧ hurtB T row = false ∧ insD D nm row = D.set i (layT T (col row 0) (some row)) := by
  have h' := h
  unfold insE at h
  cases hf : findT D nm 0 with
  | none => rw [hf] at h; simp at h
  | some p =>
    obtain ⟨i, T⟩ := p
    rw [hf] at h
    simp only at h
    refine ⟨i, T, rfl, ?_⟩
    split at h
    · rename_i h1
      split at h
      · omega
      · rename_i h2
        split at h
        · omega
        · rename_i h3
          split at h
          · omega
          · rename_i h4
            refine ⟨h1, by simpa using h2, by omega, by simpa using h4, ?_⟩
            rw [insD, if_pos h', putD, hf]
    · omega
theorem upd_facts {D : List Tb} {nm : ByteArray} {row : List V} (h : updE D nm row = 0) : ∃ i T, findT D nm 0 = some (i, T) ∧ fitsB T.s row = true ∧ (wasT T (col row 0)).isSome = true ∧ hurtB T row = false ∧ updD D nm row = D.set i (layT T (col row 0) (some row)) := by
  have h' := h
  unfold updE at h
  cases hf : findT D nm 0 with
  | none => rw [hf] at h; simp at h
  | some p =>
    obtain ⟨i, T⟩ := p
    rw [hf] at h
    simp only at h
    refine ⟨i, T, rfl, ?_⟩
    split at h
    · rename_i h1
      split at h
      · rename_i h2
        split at h
        · omega
        · rename_i h3
          refine ⟨h1, h2, by simpa using h3, ?_⟩
          rw [updD, if_pos h', putD, hf]
      · omega
    · omega
theorem UqD.ins {D : List Tb} (h : UqD D) (nm : ByteArray) (row : List V) : UqD (insD D nm row) := by
  by_cases he : insE D nm row = 0
  · obtain ⟨i, T, hf, _, _, _, hh, e⟩ := ins_facts he
    rw [e]
    exact h.set (findT_at hf).1 ((h i T (findT_at hf).1).lay fun r hr => by obtain rfl := Option.some.inj hr; exact ⟨rfl, hh⟩)
  · rw [insD, if_neg he]; exact h
theorem UqD.upd {D : List Tb} (h : UqD D) (nm : ByteArray) (row : List V) : UqD (updD D nm row) := by
  by_cases he : updE D nm row = 0
  · obtain ⟨i, T, hf, _, _, hh, e⟩ := upd_facts he
    rw [e]
    exact h.set (findT_at hf).1 ((h i T (findT_at hf).1).lay fun r hr => by obtain rfl := Option.some.inj hr; exact ⟨rfl, hh⟩)
  · rw [updD, if_neg he]; exact h
theorem UqD.del {D : List Tb} (h : UqD D) (nm : ByteArray) (v : V) : UqD (delD D nm v) := by
  unfold delD
  split
  · unfold putD
    cases hf : findT D nm 0 with
    | none => exact h
    | some p =>
      obtain ⟨i, T⟩ := p
      exact h.set (findT_at hf).1 ((h i T (findT_at hf).1).lay fun r hr => by cases hr)
  · exact h
theorem UqD.step {D : List Tb} (h : UqD D) (o : OpV) : UqD (runStep D o) := by
  unfold runStep
  split
  · exact h.cre _
  · split
    · exact h.ins _ _
    · split
      · exact h.upd _ _
      · split
        · exact h.del _ _
        · exact h
theorem UqD.run : ∀ (l : List OpV) {D : List Tb}, UqD D → UqD (runD D l)
  | [], _, h => h
  | o :: l, D, h => by
    show UqD (runD (runStep D o) l)
    exact UqD.run l (h.step o)
/-! ## What is undone is as it was -/
section
variable {D : List Tb} {nm : ByteArray} {i : Nat} {T : Tb} {row : List V}
theorem lay_was (row : List V) : (wasT (layT T (col row 0) (some row)) (col row 0)).isSome = true := by
  rw [wasT, List.find?_isSome]
  exact ⟨row, layT_mem.2 (.inr rfl), by simp⟩
theorem fits_key {s : Sch} (hs : rightS s = true) {r : List V} (h : fitsB s r = true) (hp : 0 < r.length) : rightV (col r 0) = 0 := (fits_val hs h _ (col_in hp)).1
/-- A row laid down and taken away. -/
theorem back_ins (ho : Ok D) (hf : findT D nm 0 = some (i, T)) (hp : 0 < row.length) (h : insE D nm row = 0) : delE (insD D nm row) nm (col row 0) = 0 ∧ ∃ T2, findT (delD (insD D nm row) nm (col row 0)) nm 0 = some (i, T2) ∧ ∀ r, r ∈ T2.rows ↔ r ∈ T.rows := by
  obtain ⟨i', T', hf', hfit, hw, _, _, e⟩ := ins_facts h
  rw [hf] at hf'
  obtain ⟨rfl, rfl⟩ := Prod.mk.inj (Option.some.inj hf')
  have hfa := findT_at hf
  have hf1 : findT (insD D nm row) nm 0 = some (i, layT T (col row 0) (some row)) := by rw [e]; exact findT_self hf hfa.2
  have hd : delE (insD D nm row) nm (col row 0) = 0 := by
    rw [delE, hf1]
    simp only
    rw [if_pos (fits_key (ho.right i T hfa.1) hfit hp), if_pos (lay_was row)]
  refine ⟨hd, layT (layT T (col row 0) (some row)) (col row 0) none, ?_, fun r => ?_⟩
  · rw [delD, if_pos hd, putD, hf1]
    exact findT_self hf1 hfa.2
  · rw [layT_mem]
    constructor
    · rintro (⟨h1, h2⟩ | h1)
      · rcases layT_mem.1 h1 with ⟨h3, _⟩ | h3
        · exact h3
        · obtain rfl := Option.some.inj h3
          exact absurd rfl h2
      · cases h1
    · intro hr
      exact .inl ⟨layT_mem.2 (.inl ⟨hr, wasT_none hw r hr⟩), wasT_none hw r hr⟩
/-- A row turned and turned back. -/
theorem back_upd (ho : Ok D) (hu : UqD D) (hf : findT D nm 0 = some (i, T)) {old : List V} (hw : wasT T (col row 0) = some old) (h : updE D nm row = 0) : updE (updD D nm row) nm old = 0 ∧ ∃ T2, findT (updD (updD D nm row) nm old) nm 0 = some (i, T2) ∧ ∀ r, r ∈ T2.rows ↔ r ∈ T.rows := by
  obtain ⟨i', T', hf', hfit, _, _, e⟩ := upd_facts h
  rw [hf] at hf'
  obtain ⟨rfl, rfl⟩ := Prod.mk.inj (Option.some.inj hf')
  have hfa := findT_at hf
  obtain ⟨ho1, ho2⟩ := wasT_some hw
  have hf1 : findT (updD D nm row) nm 0 = some (i, layT T (col row 0) (some row)) := by rw [e]; exact findT_self hf hfa.2
  have hfo : fitsB T.s old = true := (ho.fit i T hfa.1 old ho1).fit
  have hhu : hurtB (layT T (col row 0) (some row)) old = false := by
    refine hurt_of fun x hx hxu hk r hr he => ?_
    rcases layT_mem.1 hr with ⟨h1, h2⟩ | h1
    · exact hu i T hfa.1 x hx hxu old ho1 r h1 hk he
    · obtain rfl := Option.some.inj h1
      exact ho2.symm
  have hd : updE (updD D nm row) nm old = 0 := by
    rw [updE, hf1]
    simp only
    rw [if_pos (show fitsB (layT T (col row 0) (some row)).s old = true from hfo), ho2, if_pos (lay_was row), hhu]
    simp
  refine ⟨hd, layT (layT T (col row 0) (some row)) (col old 0) (some old), ?_, fun r => ?_⟩
  · rw [updD, if_pos hd, putD, hf1]
    exact findT_self hf1 hfa.2
  · rw [layT_mem, ho2]
    constructor
    · rintro (⟨h1, h2⟩ | h1)
      · rcases layT_mem.1 h1 with ⟨h3, _⟩ | h3
        · exact h3
        · obtain rfl := Option.some.inj h3
          exact absurd rfl h2
      · obtain rfl := Option.some.inj h1
        exact ho1
    · intro hr
      by_cases hk : col r 0 = col row 0
      · right
        have := wasT_mem ho hfa.1 hr
        rw [hk, hw] at this
        exact this
      · exact .inl ⟨layT_mem.2 (.inl ⟨hr, hk⟩), hk⟩
end
end Go.Proofs.YtekokogmnhlchaaGreatDoor
