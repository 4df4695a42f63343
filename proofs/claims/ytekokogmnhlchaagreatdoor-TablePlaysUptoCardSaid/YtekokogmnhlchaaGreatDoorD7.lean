import Derived.Test.YtekokogmnhlchaaGreatDoorD5
import Derived.Test.YtekokogmnhlchaaGreatDoorB4
import Derived.Test.YtekokogmnhlchaaGreatDoorD3
import Derived.Test.YtekokogmnhlchaaGreatDoorB1
set_option linter.unusedSimpArgs false
set_option linter.unusedVariables false
set_option linter.unusedSectionVars false
namespace Go.Proofs.YtekokogmnhlchaaGreatDoor
open Go.RowKit
theorem valsOf_ok {c : Int} {q : List V} (hq : ∀ k, okV (col q k)) : ∀ v ∈ valsOf c q, okV v := fun v hv => by
  unfold valsOf at hv
  split at hv
  · simp at hv; subst hv; exact hq 0
  simp at hv
  rcases hv with rfl | rfl
  · exact hq _
  exact hq 0
theorem scanK_lt {i : Nat} {c : Int} {r u : List V} (hr : ∀ k, okV (col r k)) (hu : ∀ k, okV (col u k)) (h : cmpB (scanK i c r) (scanK i c u) < 0) : cmpVs (valsOf c r) (valsOf c u) = -1 := by
  rw [scanK, scanK, cmpB_append] at h
  exact cmpVs_lt (valsOf_ok hr) (valsOf_ok hu) h
structure WalkL (T : Tb) (i : Nat) (R : List (List V)) : Prop where
  srt : R.Pairwise fun a b => cmpB (scanK i 0 a) (scanK i 0 b) < 0
  mem : ∀ r, r ∈ R ↔ r ∈ T.rows
theorem WalkL.ext {T U : Tb} {i : Nat} {R S : List (List V)} (h : WalkL T i R) (k : WalkL U i S) (hm : ∀ r, r ∈ T.rows ↔ r ∈ U.rows) : R = S :=
  srt_ext h.srt k.srt fun r => by rw [h.mem, k.mem, hm]
section
variable {D : List Tb} {i : Nat} {T : Tb}
theorem WalkL.nodup {R : List (List V)} (h : WalkL T i R) : R.Nodup := h.srt.imp fun {a b} h he => by rw [he, cmpB_refl] at h; omega
theorem WalkL.len {R : List (List V)} (ho : Ok D) (hT : D[i]? = some T) (h : WalkL T i R) : R.length = T.rows.length := by
  have h1 : T.rows.Nodup := (ho.keys i T hT).imp fun {a b} h he => h (by rw [he])
  exact Nat.le_antisymm (nodup_len h.nodup fun x hx => (h.mem x).1 hx) (nodup_len h1 fun x hx => (h.mem x).2 hx)
theorem WalkL.lt {R : List (List V)} (ho : Ok D) (hT : D[i]? = some T) (h : WalkL T i R) {a b : Nat} (hb : b < R.length) (hab : a < b) : cmpVs [col R[a] 0] [col R[b] 0] = -1 := by
  have h1 := h.srt
  rw [List.pairwise_iff_getElem] at h1
  exact scanK_lt (c := 0) (ho.val hT ((h.mem _).1 (List.getElem_mem _))) (ho.val hT ((h.mem _).1 (List.getElem_mem _))) (h1 a b (by omega) hb hab)
end
def UqT (T : Tb) : Prop := ∀ x ∈ T.s.ixs, x.uniq = true → ∀ r ∈ T.rows, ∀ u ∈ T.rows, (col r x.col.toNat).k ≠ 0 → col u x.col.toNat = col r x.col.toNat → col u 0 = col r 0
def UqD (D : List Tb) : Prop := ∀ (i : Nat) T, D[i]? = some T → UqT T
theorem hurt_no {T : Tb} {row : List V} (h : hurtB T row = false) {x : Ix} (hx : x ∈ T.s.ixs) (hu : x.uniq = true) (hk : (col row x.col.toNat).k ≠ 0) {r : List V} (hr : r ∈ T.rows) (he : col r x.col.toNat = col row x.col.toNat) : col r 0 = col row 0 := by
  by_cases h0 : col r 0 = col row 0
  · exact h0
  exfalso
  have : hurtB T row = true := by
    rw [hurtB, List.any_eq_true]
    refine ⟨x, hx, ?_⟩
    simp only [hu, Bool.true_and, Bool.and_eq_true, decide_eq_true_eq, List.any_eq_true]
    exact ⟨hk, r, hr, h0, he⟩
  rw [h] at this
  cases this
theorem UqT.lay {T : Tb} {v0 : V} {row : Option (List V)} (h : UqT T) (hr : ∀ r, row = some r → col r 0 = v0 ∧ hurtB T r = false) : UqT (layT T v0 row) := by
  intro x hx hu r hr1 u hu1 hk he
  have hx' : x ∈ T.s.ixs := hx
  rcases layT_mem.1 hr1 with ⟨a1, a2⟩ | a1
  · rcases layT_mem.1 hu1 with ⟨b1, b2⟩ | b1
    · exact h x hx' hu r a1 u b1 hk he
    exact (hurt_no (hr u b1).2 hx' hu (by rw [he]; exact hk) a1 he.symm).symm
  rcases layT_mem.1 hu1 with ⟨b1, b2⟩ | b1
  · exact hurt_no (hr r a1).2 hx' hu hk b1 he
  rw [a1] at b1
  rw [Option.some.inj b1]
theorem UqD.set {D : List Tb} {i : Nat} {T U : Tb} (h : UqD D) (hT : D[i]? = some T) (hU : UqT U) : UqD (D.set i U) := by
  intro j W hW
  rw [set_get hT] at hW
  split at hW
  · rw [← Option.some.inj hW]; exact hU
  exact h j W hW
theorem UqD.nil : UqD [] := fun i T h => by simp at h
theorem UqD.cre {D : List Tb} (h : UqD D) (s : Sch) : UqD (creD D s) := by
  unfold creD
  split
  · intro j W hW
    rw [app_get] at hW
    split at hW
    · obtain rfl := Option.some.inj hW
      intro x _ _ r hr
      simp at hr
    exact h j W hW
  exact h
theorem ins_facts {D : List Tb} {nm : ByteArray} {row : List V} (h : insE D nm row = 0) : ∃ i T, findT D nm 0 = some (i, T) ∧ fitsB T.s row = true ∧ wasT T (col row 0) = none ∧ T.rows.length < 64 ∧ hurtB T row = false ∧ insD D nm row = D.set i (layT T (col row 0) (some row)) := by
  have h' := h
  unfold insE at h
  cases hf : findT D nm 0 with
  | none => rw [hf] at h; simp at h
  | some p =>
    obtain ⟨i, T⟩ := p
    rw [hf] at h
    simp only at h
    refine ⟨i, T, rfl, ?_⟩
    split at h
    · rename_i h1
      split at h
      · omega
      rename_i h2
      split at h
      · omega
      rename_i h3
      split at h
      · omega
      rename_i h4
      refine ⟨h1, by simpa using h2, by omega, by simpa using h4, ?_⟩
      rw [insD, if_pos h', putD, hf]
    omega
theorem upd_facts {D : List Tb} {nm : ByteArray} {row : List V} (h : updE D nm row = 0) : ∃ i T, findT D nm 0 = some (i, T) ∧ fitsB T.s row = true ∧ (wasT T (col row 0)).isSome = true ∧ hurtB T row = false ∧ updD D nm row = D.set i (layT T (col row 0) (some row)) := by
  have h' := h
  unfold updE at h
  cases hf : findT D nm 0 with
  | none => rw [hf] at h; simp at h
  | some p =>
    obtain ⟨i, T⟩ := p
    rw [hf] at h
    simp only at h
    refine ⟨i, T, rfl, ?_⟩
    split at h
    · rename_i h1
      split at h
      · rename_i h2
        split at h
        · omega
        rename_i h3
        refine ⟨h1, h2, by simpa using h3, ?_⟩
        rw [updD, if_pos h', putD, hf]
      omega
    omega
theorem UqD.ins {D : List Tb} (h : UqD D) (nm : ByteArray) (row : List V) : UqD (insD D nm row) := by
  by_cases he : insE D nm row = 0
  · obtain ⟨i, T, hf, _, _, _, hh, e⟩ := ins_facts he
    rw [e]
    exact h.set (findT_at hf).1 ((h i T (findT_at hf).1).lay fun r hr => by obtain rfl := Option.some.inj hr; exact ⟨rfl, hh⟩)
  rw [insD, if_neg he]; exact h
theorem UqD.upd {D : List Tb} (h : UqD D) (nm : ByteArray) (row : List V) : UqD (updD D nm row) := by
  by_cases he : updE D nm row = 0
  · obtain ⟨i, T, hf, _, _, hh, e⟩ := upd_facts he
    rw [e]
    exact h.set (findT_at hf).1 ((h i T (findT_at hf).1).lay fun r hr => by obtain rfl := Option.some.inj hr; exact ⟨rfl, hh⟩)
  rw [updD, if_neg he]; exact h
theorem UqD.del {D : List Tb} (h : UqD D) (nm : ByteArray) (v : V) : UqD (delD D nm v) := by
  unfold delD
  split
  · unfold putD
    cases hf : findT D nm 0 with
    | none => exact h
    | some p =>
      obtain ⟨i, T⟩ := p
      exact h.set (findT_at hf).1 ((h i T (findT_at hf).1).lay fun r hr => by cases hr)
  exact h
theorem UqD.step {D : List Tb} (h : UqD D) (o : OpV) : UqD (runStep D o) := by
  unfold runStep
  split
  · exact h.cre _
  split
  · exact h.ins _ _
  split
  · exact h.upd _ _
  split
  · exact h.del _ _
  exact h
theorem UqD.run : ∀ (l : List OpV) {D : List Tb}, UqD D → UqD (runD D l)
  | [], _, h => h
  | o :: l, D, h => by
    show UqD (runD (runStep D o) l)
    exact UqD.run l (h.step o)
end Go.Proofs.YtekokogmnhlchaaGreatDoor
