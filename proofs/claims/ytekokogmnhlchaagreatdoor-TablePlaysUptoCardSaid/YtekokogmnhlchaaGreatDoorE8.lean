import Derived.Test.YtekokogmnhlchaaGreatDoorD7
import Derived.Test.YtekokogmnhlchaaGreatDoorD5
import Derived.Test.YtekokogmnhlchaaGreatDoorE6
import Derived.Test.YtekokogmnhlchaaGreatDoorB1
import Derived.Test.YtekokogmnhlchaaGreatDoorE4
set_option linter.unusedSimpArgs false
set_option linter.unusedVariables false
set_option linter.unusedSectionVars false
namespace Go.Proofs.YtekokogmnhlchaaGreatDoor
open Go.RowKit
structure RefT (T U : Tb) : Prop where
  s : U.s = T.s
  mem : ∀ r, r ∈ U.rows ↔ r ∈ T.rows
  srt : U.rows.Pairwise fun a b => cmpV (col a 0) (col b 0) = -1
structure RefD (D W : List Tb) : Prop where
  nm : NamesL D (namesD W)
  ref : ∀ (i j : Nat) T U, D[i]? = some T → W[j]? = some U → U.s.name = T.s.name → RefT T U
theorem cmpV_trans {a b c : V} (ha : okV a) (hb : okV b) (hc : okV c) (h1 : cmpV a b = -1) (h2 : cmpV b c = -1) : cmpV a c = -1 := by
  have k1 := keyV_lt ha hb h1 [] []
  have k2 := keyV_lt hb hc h2 [] []
  have k3 := cmpB_trans (show cmpB (keyV a ++ []) (keyV b ++ []) < 0 by omega) (show cmpB (keyV b ++ []) (keyV c ++ []) < 0 by omega)
  refine cmpV_lt ha hc (fun e => ?_) k3
  rw [e, cmpB_refl] at k3
  omega
theorem mem_names {D : List Tb} {x : ByteArray} : x ∈ namesD D ↔ ∃ (i : Nat) (T : Tb), D[i]? = some T ∧ T.s.name = x := by
  constructor
  · intro h
    obtain ⟨T, hT, e⟩ := List.mem_map.1 h
    obtain ⟨i, hi, rfl⟩ := List.getElem_of_mem hT
    exact ⟨i, D[i], List.getElem?_eq_getElem hi, e⟩
  rintro ⟨i, T, hT, e⟩
  exact List.mem_map.2 ⟨T, List.mem_of_getElem? hT, e⟩
theorem names_set {D : List Tb} {i : Nat} {T U : Tb} (hT : D[i]? = some T) (h : U.s.name = T.s.name) : namesD (D.set i U) = namesD D := by
  apply List.ext_getElem?
  intro j
  simp only [namesD, List.getElem?_map, set_get hT]
  by_cases hj : j = i
  · subst hj; rw [if_pos rfl, hT]; simp [h]
  rw [if_neg hj]
section
variable {D W : List Tb}
theorem srt_uniq {ns : List ByteArray} (hs : ns.Pairwise fun a b => cmpB a.data.toList b.data.toList < 0) {j k : Nat} {x : ByteArray} (hj : ns[j]? = some x) (hk : ns[k]? = some x) : j = k := by
  obtain ⟨h1, e1⟩ := List.getElem?_eq_some_iff.1 hj
  obtain ⟨h2, e2⟩ := List.getElem?_eq_some_iff.1 hk
  rw [List.pairwise_iff_getElem] at hs
  rcases Nat.lt_trichotomy j k with h | h | h
  · have := hs j k h1 h2 h
    rw [e1, e2, cmpB_refl] at this; omega
  · exact h
  have := hs k j h2 h1 h
  rw [e1, e2, cmpB_refl] at this; omega
theorem RefD.uniq (h : RefD D W) {j k : Nat} {U X : Tb} (hU : W[j]? = some U) (hX : W[k]? = some X) (e : U.s.name = X.s.name) : j = k :=
  srt_uniq h.nm.srt (x := X.s.name) (by rw [namesD, List.getElem?_map, hU]; simp [e]) (by rw [namesD, List.getElem?_map, hX]; rfl)
theorem RefD.find (h : RefD D W) (nm : ByteArray) : (findT D nm 0 = none ∧ findT W nm 0 = none) ∨ ∃ i T j U, findT D nm 0 = some (i, T) ∧ findT W nm 0 = some (j, U) ∧ RefT T U := by
  cases hf : findT D nm 0 with
  | none =>
    refine .inl ⟨rfl, findT_no fun j U hU e => ?_⟩
    obtain ⟨i, T, hT, hn⟩ := (h.nm.mem nm).1 (mem_names.2 ⟨j, U, hU, e⟩)
    exact findT_none hf i T hT hn
  | some p =>
    obtain ⟨i, T⟩ := p
    obtain ⟨hT, hn⟩ := findT_at hf
    obtain ⟨j, U, hU, hUn⟩ := mem_names.1 ((h.nm.mem nm).2 ⟨i, T, hT, hn⟩)
    have hfW := findT_go (nm := nm) (j := 0) (k := j) (D := W) (T := U) (fun q hq X hX e => by
      have := h.uniq hX hU (e.trans hUn.symm)
      omega) hU hUn
    rw [Nat.zero_add] at hfW
    exact .inr ⟨i, T, j, U, rfl, hfW, h.ref i j T U hT hU (hUn.trans hn.symm)⟩
theorem RefD.nil : RefD [] [] := ⟨⟨rfl, fun nm => by simp [namesD], List.Pairwise.nil⟩, fun i j T U h => by simp at h⟩
theorem RefD.len (h : RefD D W) : W.length = D.length := by rw [← h.nm.len, namesD_len]
theorem RefD.set (h : RefD D W) (ho : Ok D) {i j : Nat} {T U T' U' : Tb} (hT : D[i]? = some T) (hU : W[j]? = some U) (hn : U.s.name = T.s.name) (hT' : T'.s = T.s) (hR : RefT T' U') : RefD (D.set i T') (W.set j U') := by
  have hU' : U'.s.name = U.s.name := by rw [hR.s, hT', hn]
  have hnD : namesD (D.set i T') = namesD D := names_set hT (by rw [hT'])
  have hnW : namesD (W.set j U') = namesD W := names_set hU hU'
  refine ⟨⟨by rw [hnW, List.length_set]; exact h.nm.len, fun x => ?_, by rw [hnW]; exact h.nm.srt⟩, fun i' j' X Y hX hY e => ?_⟩
  · rw [hnW, h.nm.mem, ← mem_names, ← mem_names, hnD]
  rw [set_get hT] at hX
  rw [set_get hU] at hY
  by_cases hi : i' = i
  · rw [if_pos hi] at hX
    obtain rfl := Option.some.inj hX
    by_cases hj : j' = j
    · rw [if_pos hj] at hY
      obtain rfl := Option.some.inj hY
      exact hR
    rw [if_neg hj] at hY
    exact absurd (h.uniq hY hU (by rw [e, hT', hn])) hj
  rw [if_neg hi] at hX
  by_cases hj : j' = j
  · rw [if_pos hj] at hY
    obtain rfl := Option.some.inj hY
    exact absurd (ho.names i' i X T hX hT (by rw [← e, hU', hn])) hi
  rw [if_neg hj] at hY
  exact h.ref i' j' X Y hX hY e
end
theorem fnd_split (key : V) : ∀ L : List (List V), ∃ A B, L = A ++ B ∧ (fnd key L).1 = A.length ∧ (∀ r ∈ A, cmpV (col r 0) key < 0) ∧
    ((B = [] ∧ (fnd key L).2 = false) ∨ ∃ r B', B = r :: B' ∧ ¬ cmpV (col r 0) key < 0 ∧ (fnd key L).2 = decide (cmpV (col r 0) key = 0))
  | [] => ⟨[], [], rfl, rfl, by simp, .inl ⟨rfl, rfl⟩⟩
  | r :: L => by
    by_cases h : cmpV (col r 0) key < 0
    · obtain ⟨A, B, h1, h2, h3, h4⟩ := fnd_split key L
      refine ⟨r :: A, B, by rw [h1]; rfl, by rw [fnd, if_pos h]; simp [h2], ?_, ?_⟩
      · intro q hq
        rcases List.mem_cons.1 hq with rfl | hq
        · exact h
        exact h3 q hq
      rw [fnd, if_pos h]; exact h4
    exact ⟨[], r :: L, rfl, by rw [fnd, if_neg h]; rfl, by simp, .inr ⟨r, L, rfl, h, by rw [fnd, if_neg h]⟩⟩
theorem fnd_cases {L : List (List V)} {key : V} (hs : L.Pairwise fun a b => cmpV (col a 0) (col b 0) = -1) (ho : ∀ r ∈ L, okV (col r 0)) (hk : okV key) :
    (∃ A r B, L = A ++ r :: B ∧ fnd key L = (A.length, true) ∧ col r 0 = key ∧ (∀ a ∈ A, cmpV (col a 0) key = -1) ∧ ∀ b ∈ B, cmpV key (col b 0) = -1) ∨
    ∃ A B, L = A ++ B ∧ fnd key L = (A.length, false) ∧ (∀ a ∈ A, cmpV (col a 0) key = -1) ∧ ∀ b ∈ B, cmpV key (col b 0) = -1 := by
  obtain ⟨A, B, rfl, h2, h3, h4⟩ := fnd_split key L
  have hA : ∀ a ∈ A, cmpV (col a 0) key = -1 := fun a ha => by
    have := h3 a ha
    rcases cmpV_three (col a 0) key with h | h | h <;> omega
  rcases h4 with ⟨rfl, h5⟩ | ⟨r, B', rfl, h5, h6⟩
  · exact .inr ⟨A, [], rfl, by rw [← h2, ← h5], hA, by simp⟩
  have hr : okV (col r 0) := ho r (by simp)
  obtain ⟨_, hs2, _⟩ := List.pairwise_append.1 hs
  have hrB := (List.pairwise_cons.1 hs2).1
  by_cases h0 : cmpV (col r 0) key = 0
  · have he := cmpV_zero hr hk h0
    exact .inl ⟨A, r, B', rfl, by rw [← h2, show true = (fnd key (A ++ r :: B')).2 by rw [h6]; simp [h0]], he, hA, fun b hb => by rw [← he]; exact hrB b hb⟩
  have h1 : cmpV key (col r 0) = -1 := by
    rw [cmpV_swap]
    rcases cmpV_three (col r 0) key with h | h | h <;> omega
  refine .inr ⟨A, r :: B', rfl, by rw [← h2, show false = (fnd key (A ++ r :: B')).2 by rw [h6]; simp [h0]], hA, fun b hb => ?_⟩
  rcases List.mem_cons.1 hb with rfl | hb
  · exact h1
  exact cmpV_trans hk hr (ho b (by simp [hb])) h1 (hrB b hb)
theorem ne_of_cmp {a b : V} (h : cmpV a b = -1) : a ≠ b := fun e => by rw [e, cmpV_refl] at h; omega
theorem ne_of_cmp' {a b : V} (h : cmpV a b = -1) : b ≠ a := fun e => ne_of_cmp h e.symm
theorem wasT_iff {T : Tb} {key : V} : (wasT T key).isSome = true ↔ ∃ r ∈ T.rows, col r 0 = key := by
  simp [wasT, List.find?_isSome]
section
variable {T U : Tb} {key : V}
theorem RefT.ok {D : List Tb} {i : Nat} (h : RefT T U) (ho : Ok D) (hT : D[i]? = some T) : ∀ r ∈ U.rows, ∀ k, okV (col r k) := fun r hr k => ho.val hT ((h.mem r).1 hr) k
theorem srt_nodup {L : List (List V)} (hs : L.Pairwise fun a b => cmpV (col a 0) (col b 0) = -1) : L.Nodup :=
  hs.imp fun {a b} hab e => by rw [e, cmpV_refl] at hab; omega
theorem RefT.len {D : List Tb} {i : Nat} (h : RefT T U) (ho : Ok D) (hT : D[i]? = some T) : U.rows.length = T.rows.length := by
  have h1 : T.rows.Nodup := (ho.keys i T hT).imp fun {a b} hab e => hab (by rw [e])
  exact Nat.le_antisymm (nodup_len (srt_nodup h.srt) fun x hx => (h.mem x).1 hx) (nodup_len h1 fun x hx => (h.mem x).2 hx)
theorem tw_hurt (h : RefT T U) {row : List V} {skip : Int} (H : ∀ j (hj : j < U.rows.length), ((j : Int) ≠ skip ↔ col U.rows[j] 0 ≠ col row 0)) : twB U row skip = hurtB T row := by
  rw [Bool.eq_iff_iff, twB, hurtB, List.any_eq_true, List.any_eq_true, h.s]
  refine exists_congr fun x => and_congr_right fun _ => ?_
  simp only [hitX, Bool.and_eq_true, decide_eq_true_eq]
  refine and_congr_right fun _ => and_congr_right fun _ => ?_
  rw [hitK, List.any_eq_true, List.any_eq_true]
  constructor
  · rintro ⟨j, hj, hc⟩
    rw [List.mem_range] at hj
    rw [List.getD_eq_getElem?_getD, List.getElem?_eq_getElem hj] at hc
    simp only [Bool.and_eq_true, decide_eq_true_eq, Option.getD_some] at hc
    refine ⟨U.rows[j], (h.mem _).1 (List.getElem_mem hj), ?_⟩
    simp only [Bool.and_eq_true, decide_eq_true_eq]
    exact ⟨(H j hj).1 hc.1, hc.2⟩
  rintro ⟨r, hr, hc⟩
  simp only [Bool.and_eq_true, decide_eq_true_eq] at hc
  obtain ⟨j, hj, rfl⟩ := List.getElem_of_mem ((h.mem r).2 hr)
  refine ⟨j, List.mem_range.2 hj, ?_⟩
  rw [List.getD_eq_getElem?_getD, List.getElem?_eq_getElem hj]
  simp only [Bool.and_eq_true, decide_eq_true_eq, Option.getD_some]
  exact ⟨(H j hj).2 hc.1, hc.2⟩
theorem RefT.fnd {D : List Tb} {i : Nat} (h : RefT T U) (ho : Ok D) (hT : D[i]? = some T) (hk : okV key) :
    (∃ A r B, U.rows = A ++ r :: B ∧ fnd key U.rows = (A.length, true) ∧ wasT T key = some r ∧ col r 0 = key ∧ (∀ a ∈ A, cmpV (col a 0) key = -1) ∧ (∀ b ∈ B, cmpV key (col b 0) = -1)) ∨
    ∃ A B, U.rows = A ++ B ∧ fnd key U.rows = (A.length, false) ∧ wasT T key = none ∧ (∀ a ∈ A, cmpV (col a 0) key = -1) ∧ (∀ b ∈ B, cmpV key (col b 0) = -1) := by
  rcases fnd_cases h.srt (fun r hr => h.ok ho hT r hr 0) hk with ⟨A, r, B, h1, h2, h3, h4, h5⟩ | ⟨A, B, h1, h2, h4, h5⟩
  · refine .inl ⟨A, r, B, h1, h2, ?_, h3, h4, h5⟩
    have hr : r ∈ T.rows := (h.mem r).1 (by rw [h1]; simp)
    have hs : (wasT T key).isSome = true := wasT_iff.2 ⟨r, hr, h3⟩
    obtain ⟨u, hu⟩ := Option.isSome_iff_exists.1 hs
    obtain ⟨hu1, hu2⟩ := wasT_some hu
    have hu3 := (h.mem u).2 hu1
    rw [h1] at hu3
    rw [hu]
    rcases List.mem_append.1 hu3 with ha | hb
    · exact absurd hu2 (ne_of_cmp (h4 u ha))
    rcases List.mem_cons.1 hb with rfl | hb
    · rfl
    exact absurd hu2 (ne_of_cmp' (h5 u hb))
  refine .inr ⟨A, B, h1, h2, ?_, h4, h5⟩
  cases hw : wasT T key with
  | none => rfl
  | some u =>
    obtain ⟨hu1, hu2⟩ := wasT_some hw
    have hu3 := (h.mem u).2 hu1
    rw [h1] at hu3
    rcases List.mem_append.1 hu3 with ha | hb
    · exact absurd hu2 (ne_of_cmp (h4 u ha))
    exact absurd hu2 (ne_of_cmp' (h5 u hb))
theorem srt_mid {A B : List (List V)} {row : List V} (hA : A.Pairwise fun a b => cmpV (col a 0) (col b 0) = -1) (hB : B.Pairwise fun a b => cmpV (col a 0) (col b 0) = -1) (hAB : ∀ a ∈ A, ∀ b ∈ B, cmpV (col a 0) (col b 0) = -1)
    (h1 : ∀ a ∈ A, cmpV (col a 0) (col row 0) = -1) (h2 : ∀ b ∈ B, cmpV (col row 0) (col b 0) = -1) : (A ++ row :: B).Pairwise fun a b => cmpV (col a 0) (col b 0) = -1 := by
  refine List.pairwise_append.2 ⟨hA, List.pairwise_cons.2 ⟨h2, hB⟩, fun a ha b hb => ?_⟩
  rcases List.mem_cons.1 hb with rfl | hb
  · exact h1 a ha
  exact hAB a ha b hb
end
def creE15 (W : List Tb) (s : Sch) : Int := if rightS s then (if 0 ≤ atD W s.name then 60 else if 4 ≤ W.length then 2 else 0) else 61
def le15 (nm : ByteArray) : List Tb → Nat
  | [] => 0
  | T :: W => if cmpB T.s.name.data.toList nm.data.toList < 0 then le15 nm W + 1 else 0
def creD15 (W : List Tb) (s : Sch) : List Tb := if creE15 W s = 0 then W.take (le15 s.name W) ++ ⟨s, []⟩ :: W.drop (le15 s.name W) else W
def insE15 (W : List Tb) (nm : ByteArray) (row : List V) : Int := match findT W nm 0 with
  | none => 60
  | some (_, U) => if fitsB U.s row then (if (fnd (col row 0) U.rows).2 then 63 else if 64 ≤ U.rows.length then 2 else if twB U row (-1) then 64 else 0) else 62
def setR (W : List Tb) (nm : ByteArray) (f : Tb → List (List V)) : List Tb := match findT W nm 0 with
  | none => W
  | some (j, U) => W.set j ⟨U.s, f U⟩
def insR15 (row : List V) (U : Tb) : List (List V) := U.rows.take (fnd (col row 0) U.rows).1 ++ row :: U.rows.drop (fnd (col row 0) U.rows).1
def insD15 (W : List Tb) (nm : ByteArray) (row : List V) : List Tb := if insE15 W nm row = 0 then setR W nm (insR15 row) else W
def updE15 (W : List Tb) (nm : ByteArray) (row : List V) : Int := match findT W nm 0 with
  | none => 60
  | some (_, U) => if fitsB U.s row then (if (fnd (col row 0) U.rows).2 then (if twB U row (fnd (col row 0) U.rows).1 then 64 else 0) else 4) else 62
def updR15 (row : List V) (U : Tb) : List (List V) := U.rows.set (fnd (col row 0) U.rows).1 row
def updD15 (W : List Tb) (nm : ByteArray) (row : List V) : List Tb := if updE15 W nm row = 0 then setR W nm (updR15 row) else W
def delR15 (key : V) (U : Tb) : List (List V) := U.rows.take (fnd key U.rows).1 ++ U.rows.drop ((fnd key U.rows).1 + 1)
def delD15 (W : List Tb) (nm : ByteArray) (key : V) : List Tb := if delE15 W nm key = 0 then setR W nm (delR15 key) else W
section
variable {D W : List Tb}
theorem RefD.ins (h : RefD D W) (ho : Ok D) (nm : ByteArray) (row : List V) (hw : ∀ v ∈ row, wf64 v.n) : insE15 W nm row = insE D nm row ∧ RefD (insD D nm row) (insD15 W nm row) := by
  rcases h.find nm with ⟨f1, f2⟩ | ⟨i, T, j, U, f1, f2, hR⟩
  · have e1 : insE15 W nm row = 60 := by rw [insE15, f2]
    have e2 : insE D nm row = 60 := by rw [insE, f1]
    exact ⟨e1.trans e2.symm, by rw [insD, insD15, e1, e2]; exact h⟩
  obtain ⟨hT, hn⟩ := findT_at f1
  obtain ⟨hU, hUn⟩ := findT_at f2
  by_cases hf : fitsB T.s row = true
  rotate_left
  · have e1 : insE15 W nm row = 62 := by rw [insE15, f2]; simp only [hR.s, if_neg hf]
    have e2 : insE D nm row = 62 := by rw [insE, f1]; simp only [if_neg hf]
    exact ⟨e1.trans e2.symm, by rw [insD, insD15, e1, e2]; exact h⟩
  have hro : RowOf T.s row := ⟨hf, hw⟩
  have hk : okV (col row 0) := (hro.col (ho.right i T hT) 0).1
  have e0 : insE15 W nm row = if (fnd (col row 0) U.rows).2 then 63 else if 64 ≤ U.rows.length then 2 else if twB U row (-1) then 64 else 0 := by rw [insE15, f2]; simp only [hR.s, hf, if_true]
  have e1 : insE D nm row = if (wasT T (col row 0)).isSome then 63 else if 64 ≤ T.rows.length then 2 else if hurtB T row then 64 else 0 := by rw [insE, f1]; simp only [hf, if_true]
  rcases hR.fnd ho hT hk with ⟨A, r, B, h1, h2, h3, h4, h5, h6⟩ | ⟨A, B, h1, h2, h3, h5, h6⟩
  · rw [h2] at e0
    rw [h3] at e1
    simp only [if_true, Option.isSome_some] at e0 e1
    exact ⟨e0.trans e1.symm, by rw [insD, insD15, e0, e1]; exact h⟩
  have htw : twB U row (-1) = hurtB T row := tw_hurt hR fun q hq => by
    refine ⟨fun _ e => ?_, fun _ => by omega⟩
    have hm : U.rows[q] ∈ A ++ B := by rw [← h1]; exact List.getElem_mem hq
    rcases List.mem_append.1 hm with ha | hb
    · exact ne_of_cmp (h5 _ ha) e
    exact ne_of_cmp' (h6 _ hb) e
  have hlen := hR.len ho hT
  rw [h2, hlen, htw] at e0
  rw [h3] at e1
  simp only [Option.isSome_none, Bool.false_eq_true, if_false] at e0 e1
  refine ⟨e0.trans e1.symm, ?_⟩
  rw [insD, insD15, e0, e1]
  generalize (if 64 ≤ T.rows.length then (2 : Int) else if hurtB T row = true then 64 else 0) = E
  by_cases hz : E = 0
  rotate_left
  · rw [if_neg hz, if_neg hz]; exact h
  rw [if_pos hz, if_pos hz, putD, setR, f1, f2]
  refine h.set ho hT hU (hUn.trans hn.symm) rfl ⟨hR.s, fun r => ?_, ?_⟩
  · rw [layT_mem]
    show r ∈ insR15 row U ↔ _
    rw [insR15, h2, h1]
    simp only [List.take_left, List.drop_left, List.mem_append, List.mem_cons, Option.some.injEq]
    have hm := hR.mem r
    rw [h1, List.mem_append] at hm
    constructor
    · rintro (h | rfl | h)
      · exact .inl ⟨hm.1 (.inl h), ne_of_cmp (h5 r h)⟩
      · exact .inr rfl
      exact .inl ⟨hm.1 (.inr h), ne_of_cmp' (h6 r h)⟩
    rintro (⟨h, _⟩ | rfl)
    · rcases hm.2 h with h | h
      · exact .inl h
      exact .inr (.inr h)
    exact .inr (.inl rfl)
  show (insR15 row U).Pairwise _
  have hs := hR.srt
  rw [h1] at hs
  obtain ⟨s1, s2, s3⟩ := List.pairwise_append.1 hs
  rw [insR15, h2, h1]
  simp only [List.take_left, List.drop_left]
  exact srt_mid s1 s2 s3 h5 h6
theorem set_mid {α : Type} (A B : List α) (r x : α) : (A ++ r :: B).set A.length x = A ++ x :: B := by
  rw [List.set_append_right _ _ (Nat.le_refl _), Nat.sub_self, List.set_cons_zero]
theorem RefD.upd (h : RefD D W) (ho : Ok D) (nm : ByteArray) (row : List V) (hw : ∀ v ∈ row, wf64 v.n) : updE15 W nm row = updE D nm row ∧ RefD (updD D nm row) (updD15 W nm row) := by
  rcases h.find nm with ⟨f1, f2⟩ | ⟨i, T, j, U, f1, f2, hR⟩
  · have e1 : updE15 W nm row = 60 := by rw [updE15, f2]
    have e2 : updE D nm row = 60 := by rw [updE, f1]
    exact ⟨e1.trans e2.symm, by rw [updD, updD15, e1, e2]; exact h⟩
  obtain ⟨hT, hn⟩ := findT_at f1
  obtain ⟨hU, hUn⟩ := findT_at f2
  by_cases hf : fitsB T.s row = true
  rotate_left
  · have e1 : updE15 W nm row = 62 := by rw [updE15, f2]; simp only [hR.s, if_neg hf]
    have e2 : updE D nm row = 62 := by rw [updE, f1]; simp only [if_neg hf]
    exact ⟨e1.trans e2.symm, by rw [updD, updD15, e1, e2]; exact h⟩
  have hro : RowOf T.s row := ⟨hf, hw⟩
  have hk : okV (col row 0) := (hro.col (ho.right i T hT) 0).1
  have e0 : updE15 W nm row = if (fnd (col row 0) U.rows).2 then (if twB U row (fnd (col row 0) U.rows).1 then 64 else 0) else 4 := by rw [updE15, f2]; simp only [hR.s, hf, if_true]
  have e1 : updE D nm row = if (wasT T (col row 0)).isSome then (if hurtB T row then 64 else 0) else 4 := by rw [updE, f1]; simp only [hf, if_true]
  rcases hR.fnd ho hT hk with ⟨A, r, B, h1, h2, h3, h4, h5, h6⟩ | ⟨A, B, h1, h2, h3, h5, h6⟩
  · have htw : twB U row A.length = hurtB T row := tw_hurt hR fun q hq => by
      rcases Nat.lt_trichotomy q A.length with hq1 | hq1 | hq1
      · refine ⟨fun _ e => ?_, fun _ => by omega⟩
        have : U.rows[q] = A[q] := by simp only [h1]; rw [List.getElem_append_left hq1]
        rw [this] at e
        exact ne_of_cmp (h5 _ (List.getElem_mem hq1)) e
      · subst hq1
        refine ⟨fun e => absurd rfl e, fun e => absurd ?_ e⟩
        have : U.rows[A.length] = r := by simp only [h1]; rw [List.getElem_append_right (Nat.le_refl _)]; simp
        rw [this]; exact h4
      refine ⟨fun _ e => ?_, fun _ => by omega⟩
      have hm : U.rows[q] ∈ B := by
        simp only [h1]
        rw [List.getElem_append_right (by omega)]
        obtain ⟨m, hm⟩ : ∃ m, q - A.length = m + 1 := ⟨q - A.length - 1, by omega⟩
        simp only [hm, List.getElem_cons_succ]
        exact List.getElem_mem _
      exact ne_of_cmp' (h6 _ hm) e
    rw [h2] at e0
    rw [h3] at e1
    simp only [if_true, Option.isSome_some] at e0 e1
    rw [htw] at e0
    refine ⟨e0.trans e1.symm, ?_⟩
    rw [updD, updD15, e0, e1]
    generalize (if hurtB T row = true then (64 : Int) else 0) = E
    by_cases hz : E = 0
    rotate_left
    · rw [if_neg hz, if_neg hz]; exact h
    rw [if_pos hz, if_pos hz, putD, setR, f1, f2]
    refine h.set ho hT hU (hUn.trans hn.symm) rfl ⟨hR.s, fun q => ?_, ?_⟩
    · rw [layT_mem]
      show q ∈ updR15 row U ↔ _
      rw [updR15, h2, h1, set_mid]
      have hm := hR.mem q
      rw [h1] at hm
      simp only [List.mem_append, List.mem_cons, Option.some.injEq] at hm ⊢
      constructor
      · rintro (h | rfl | h)
        · exact .inl ⟨hm.1 (.inl h), ne_of_cmp (h5 q h)⟩
        · exact .inr rfl
        exact .inl ⟨hm.1 (.inr (.inr h)), ne_of_cmp' (h6 q h)⟩
      rintro (⟨h, hne⟩ | rfl)
      · rcases hm.2 h with h | rfl | h
        · exact .inl h
        · exact absurd h4 hne
        exact .inr (.inr h)
      exact .inr (.inl rfl)
    show (updR15 row U).Pairwise _
    have hs := hR.srt
    rw [h1] at hs
    obtain ⟨s1, s2, s3⟩ := List.pairwise_append.1 hs
    rw [updR15, h2, h1, set_mid]
    exact srt_mid s1 (List.pairwise_cons.1 s2).2 (fun a ha b hb => s3 a ha b (by simp [hb])) h5 h6
  rw [h2] at e0
  rw [h3] at e1
  simp only [Option.isSome_none, Bool.false_eq_true, if_false] at e0 e1
  exact ⟨e0.trans e1.symm, by rw [updD, updD15, e0, e1]; exact h⟩
theorem RefD.del (h : RefD D W) (ho : Ok D) (nm : ByteArray) (key : V) (hw : wf64 key.n) (hz : key.s.size ≤ 4000000) : delE15 W nm key = delE D nm key ∧ RefD (delD D nm key) (delD15 W nm key) := by
  rcases h.find nm with ⟨f1, f2⟩ | ⟨i, T, j, U, f1, f2, hR⟩
  · have e1 : delE15 W nm key = 60 := by rw [delE15, f2]
    have e2 : delE D nm key = 60 := by rw [delE, f1]
    exact ⟨e1.trans e2.symm, by rw [delD, delD15, e1, e2]; exact h⟩
  obtain ⟨hT, hn⟩ := findT_at f1
  obtain ⟨hU, hUn⟩ := findT_at f2
  by_cases hf : rightV key = 0
  rotate_left
  · have e1 : delE15 W nm key = 62 := by rw [delE15, f2]; simp only [if_neg hf]
    have e2 : delE D nm key = 62 := by rw [delE, f1]; simp only [if_neg hf]
    exact ⟨e1.trans e2.symm, by rw [delD, delD15, e1, e2]; exact h⟩
  have hk : okV key := ⟨hf, hw, hz⟩
  have e0 : delE15 W nm key = if (fnd key U.rows).2 then 0 else 4 := by rw [delE15, f2]; simp only [hf, if_true]
  have e1 : delE D nm key = if (wasT T key).isSome then 0 else 4 := by rw [delE, f1]; simp only [hf, if_true]
  rcases hR.fnd ho hT hk with ⟨A, r, B, h1, h2, h3, h4, h5, h6⟩ | ⟨A, B, h1, h2, h3, h5, h6⟩
  · rw [h2] at e0
    rw [h3] at e1
    simp only [if_true, Option.isSome_some] at e0 e1
    refine ⟨e0.trans e1.symm, ?_⟩
    rw [delD, delD15, e0, e1, if_pos rfl, if_pos rfl, putD, setR, f1, f2]
    have hdr : delR15 key U = A ++ B := by
      rw [delR15, h2, h1, List.take_left]
      rw [show A ++ r :: B = (A ++ [r]) ++ B by simp, show A.length + 1 = (A ++ [r]).length by simp, List.drop_left]
    refine h.set ho hT hU (hUn.trans hn.symm) rfl ⟨hR.s, fun q => ?_, ?_⟩
    · rw [layT_mem]
      show q ∈ delR15 key U ↔ _
      rw [hdr]
      have hm := hR.mem q
      rw [h1] at hm
      simp only [List.mem_append, List.mem_cons] at hm ⊢
      constructor
      · rintro (h | h)
        · exact .inl ⟨hm.1 (.inl h), ne_of_cmp (h5 q h)⟩
        exact .inl ⟨hm.1 (.inr (.inr h)), ne_of_cmp' (h6 q h)⟩
      rintro (⟨h, hne⟩ | h)
      · rcases hm.2 h with h | rfl | h
        · exact .inl h
        · exact absurd h4 hne
        exact .inr h
      cases h
    show (delR15 key U).Pairwise _
    have hs := hR.srt
    rw [h1] at hs
    obtain ⟨s1, s2, s3⟩ := List.pairwise_append.1 hs
    rw [hdr]
    exact List.pairwise_append.2 ⟨s1, (List.pairwise_cons.1 s2).2, fun a ha b hb => s3 a ha b (by simp [hb])⟩
  rw [h2] at e0
  rw [h3] at e1
  simp only [Option.isSome_none, Bool.false_eq_true, if_false] at e0 e1
  exact ⟨e0.trans e1.symm, by rw [delD, delD15, e0, e1]; exact h⟩
theorem le_split (nm : ByteArray) : ∀ {W : List Tb}, (namesD W).Pairwise (fun a b => cmpB a.data.toList b.data.toList < 0) → (∀ U ∈ W, U.s.name ≠ nm) →
    ∃ A B, W = A ++ B ∧ le15 nm W = A.length ∧ (∀ U ∈ A, cmpB U.s.name.data.toList nm.data.toList < 0) ∧ ∀ U ∈ B, cmpB nm.data.toList U.s.name.data.toList < 0
  | [], _, _ => ⟨[], [], rfl, rfl, by simp, by simp⟩
  | U :: W, hs, hn => by
    obtain ⟨h1, h2⟩ := List.pairwise_cons.1 hs
    by_cases h : cmpB U.s.name.data.toList nm.data.toList < 0
    · obtain ⟨A, B, e1, e2, e3, e4⟩ := le_split nm h2 fun X hX => hn X (by simp [hX])
      refine ⟨U :: A, B, by rw [e1]; rfl, by rw [le15, if_pos h]; simp [e2], fun X hX => ?_, e4⟩
      rcases List.mem_cons.1 hX with rfl | hX
      · exact h
      exact e3 X hX
    have h3 : cmpB nm.data.toList U.s.name.data.toList < 0 := by
      have k := cmpB_swap U.s.name.data.toList nm.data.toList
      rcases cmpB_three U.s.name.data.toList nm.data.toList with k1 | k1 | k1
      · omega
      · exact absurd (bytes_inj (cmpB_zero k1)) (hn U (by simp))
      omega
    refine ⟨[], U :: W, rfl, by rw [le15, if_neg h]; rfl, by simp, fun X hX => ?_⟩
    rcases List.mem_cons.1 hX with rfl | hX
    · exact h3
    exact cmpB_trans h3 (h1 X.s.name (List.mem_map.2 ⟨X, hX, rfl⟩))
theorem RefD.cre (h : RefD D W) (ho : Ok D) (s : Sch) : creE15 W s = creE D s ∧ RefD (creD D s) (creD15 W s) := by
  have hat : 0 ≤ atD W s.name ↔ D.any (fun T => decide (T.s.name = s.name)) = true := by
    rw [List.any_eq_true, atD]
    rcases h.find s.name with ⟨f1, f2⟩ | ⟨i, T, j, U, f1, f2, hR⟩
    · rw [f2]
      refine ⟨fun e => by simp at e, fun ⟨T, hT, e⟩ => ?_⟩
      obtain ⟨i, hi, rfl⟩ := List.getElem_of_mem hT
      exact absurd (by simpa using e) (findT_none f1 i D[i] (List.getElem?_eq_getElem hi))
    rw [f2]
    obtain ⟨hT, hn⟩ := findT_at f1
    exact ⟨fun _ => ⟨T, List.mem_of_getElem? hT, by simpa using hn⟩, fun _ => by simp⟩
  have he : creE15 W s = creE D s := by
    rw [creE15, creE, h.len]
    simp only [hat]
  refine ⟨he, ?_⟩
  rw [creD, creD15, he]
  split
  · rename_i h0
    have hno : ∀ (i : Nat) T, D[i]? = some T → T.s.name ≠ s.name := fun i T hT e => by
      rw [creE] at h0
      split at h0
      · rw [if_pos (List.any_eq_true.2 ⟨T, List.mem_of_getElem? hT, by simpa using e⟩)] at h0
        omega
      omega
    have hnW : ∀ U ∈ W, U.s.name ≠ s.name := fun U hU e => by
      obtain ⟨j, hj, rfl⟩ := List.getElem_of_mem hU
      obtain ⟨i, T, hT, e2⟩ := (h.nm.mem s.name).1 (mem_names.2 ⟨j, W[j], List.getElem?_eq_getElem hj, e⟩)
      exact hno i T hT e2
    obtain ⟨A, B, rfl, h2, h3, h4⟩ := le_split s.name h.nm.srt hnW
    rw [h2, List.take_left, List.drop_left]
    have hs := h.nm.srt
    rw [namesD, List.map_append] at hs
    obtain ⟨s1, s2, s3⟩ := List.pairwise_append.1 hs
    refine ⟨⟨?_, fun x => ?_, ?_⟩, fun i j T U hT hU e => ?_⟩
    · have := h.len
      rw [namesD_len]
      simp only [List.length_append, List.length_cons, List.length_nil] at this ⊢
      omega
    · have hm := h.nm.mem x
      rw [← mem_names] at hm ⊢
      simp only [namesD, List.map_append, List.map_cons, List.map_nil, List.mem_append, List.mem_cons, List.mem_nil_iff, or_false] at hm ⊢
      rw [← hm]
      constructor
      · rintro (h | h | h)
        · exact .inl (.inl h)
        · exact .inr h
        exact .inl (.inr h)
      rintro ((h | h) | h)
      · exact .inl h
      · exact .inr (.inr h)
      exact .inr (.inl h)
    · rw [namesD, List.map_append, List.map_cons]
      refine List.pairwise_append.2 ⟨s1, List.pairwise_cons.2 ⟨fun b hb => ?_, s2⟩, fun a ha b hb => ?_⟩
      · obtain ⟨U, hU, rfl⟩ := List.mem_map.1 hb
        exact h4 U hU
      rcases List.mem_cons.1 hb with rfl | hb
      · obtain ⟨U, hU, rfl⟩ := List.mem_map.1 ha
        exact h3 U hU
      exact s3 a ha b hb
    rw [app_get] at hT
    have hUm := List.mem_of_getElem? hU
    simp only [List.mem_append, List.mem_cons] at hUm
    split at hT
    · obtain rfl := Option.some.inj hT
      rcases hUm with hm | rfl | hm
      · exact absurd e (hnW U (by simp [hm]))
      · exact ⟨rfl, fun r => Iff.rfl, List.Pairwise.nil⟩
      exact absurd e (hnW U (by simp [hm]))
    have hUW : U ∈ A ++ B := by
      rcases hUm with hm | rfl | hm
      · simp [hm]
      · exact absurd e.symm (hno i T hT)
      simp [hm]
    obtain ⟨q, hq, rfl⟩ := List.getElem_of_mem hUW
    exact h.ref i q T _ hT (List.getElem?_eq_getElem hq) e
  exact h
end
theorem cmpB_early : ∀ {a b : List UInt8} (t y : List UInt8), a.length ≤ b.length → (∀ z, b ≠ a ++ z) → cmpB (a ++ t) (b ++ y) = cmpB a b
  | [], b, _, _, _, h => absurd rfl (h b)
  | _ :: _, [], _, _, hl, _ => by simp at hl
  | x :: a, w :: b, t, y, hl, h => by
    simp only [List.cons_append, cmpB]
    by_cases hx : x < w
    · simp [hx]
    by_cases hy : w < x
    · simp [hx, hy]
    simp only [hx, hy, if_false]
    have he : x = w := by
      rcases u8_tri x w with h1 | h1 | h1
      · exact absurd h1 hx
      · exact h1
      exact absurd h1 hy
    exact cmpB_early t y (by simpa using hl) fun z e => h z (by rw [he, e]; rfl)
theorem boundB_form (i : Nat) (c : Int) (v : V) : boundB (aheadB i c) v = aheadB i c ++ (keyV v).take (58 - (aheadB i c).length) := by
  have ha := aheadB_len i c
  rw [boundB, List.take_append, List.take_of_length_le (by omega)]
theorem bound_lt {i : Nat} {c : Int} {x v : V} (hx : okV x) (hv : okV v) (hl : (keyV x).length ≤ 28) (t : List UInt8) : cmpB (aheadB i c ++ (keyV x ++ t)) (boundB (aheadB i c) v) < 0 ↔ cmpV x v = -1 := by
  have ha := aheadB_len i c
  rw [boundB_form, cmpB_append]
  generalize hm : 58 - (aheadB i c).length = m
  have hm56 : 56 ≤ m := by omega
  by_cases hlong : (keyV v).length ≤ m
  · rw [List.take_of_length_le hlong]
    constructor
    · intro h
      refine cmpV_lt hx hv (fun e => ?_) (x := t) (y := []) (by simpa using h)
      rw [e] at h
      have h1 := cmpB_pre (keyV v) t
      have h2 := cmpB_swap (keyV v) (keyV v ++ t)
      omega
    intro h
    have := keyV_lt hx hv h t []
    rw [List.append_nil] at this
    omega
  have hq : (keyV v).take m ++ (keyV v).drop m = keyV v := List.take_append_drop _ _
  have hne : x ≠ v := fun e => by rw [e] at hl; omega
  have hfree : ∀ z, (keyV v).take m ≠ keyV x ++ z := fun z e => by
    have h1 : keyV x ++ (z ++ (keyV v).drop m) = keyV v ++ [] := by rw [← List.append_assoc, ← e, hq, List.append_nil]
    exact hne (keyV_free hx hv h1).1
  have hle : (keyV x).length ≤ ((keyV v).take m).length := by rw [List.length_take]; omega
  have e1 := cmpB_early t [] hle hfree
  have e2 := cmpB_early t ((keyV v).drop m) hle hfree
  rw [List.append_nil] at e1
  rw [hq] at e2
  rw [e1, ← e2]
  constructor
  · intro h
    exact cmpV_lt hx hv hne (x := t) (y := []) (by simpa using h)
  intro h
  have := keyV_lt hx hv h t []
  rw [List.append_nil] at this
  omega
def keepB (c : Nat) (lo hi : V) (r : List V) : Bool := !(decide (cmpV (col r c) lo < 0) || (decide (hi.k ≠ 0) && decide (0 ≤ cmpV (col r c) hi)))
def kv (c : Int) (r : List V) : List UInt8 := keyL (valsOf c r)
theorem kv_form (c : Int) (r : List V) : ∃ t, kv c r = keyV (col r c.toNat) ++ t := by
  by_cases hc : c = 0
  · subst hc; exact ⟨[], by simp [kv, valsOf, keyL]⟩
  exact ⟨keyV (col r 0), by simp [kv, valsOf, keyL, hc]⟩
theorem scanK_kv (i : Nat) (c : Int) (r : List V) : scanK i c r = aheadB i c ++ kv c r := rfl
theorem scan_cmp (i : Nat) (c : Int) (a b : List V) : cmpB (scanK i c a) (scanK i c b) = cmpB (kv c a) (kv c b) := by rw [scanK_kv, scanK_kv, cmpB_append]
theorem kv_lt {c : Int} {a b : List V} (ha : okV (col a c.toNat)) (hb : okV (col b c.toNat)) (h : cmpV (col a c.toNat) (col b c.toNat) = -1) : cmpB (kv c a) (kv c b) < 0 := by
  obtain ⟨t, ht⟩ := kv_form c a
  obtain ⟨u, hu⟩ := kv_form c b
  rw [ht, hu, keyV_lt ha hb h]
  decide
theorem keep_in {i : Nat} {c : Int} {lo hi : V} {r : List V} (hr : okV (col r c.toNat)) (h28 : (keyV (col r c.toNat)).length ≤ 28) (hlo : okV lo) (hhi : okV hi) : keepB c.toNat lo hi r = true ↔ inB (boundB (aheadB i c) lo) (toB (aheadB i c) hi) (scanK i c r) := by
  obtain ⟨t, ht⟩ := scanK_form i c r
  rw [inB, ht]
  have h1 := bound_lt (i := i) (c := c) hr hlo h28 t
  have h2 := bound_lt (i := i) (c := c) hr hhi h28 t
  have h3 := cmpV_three (col r c.toNat) lo
  have h4 := cmpV_three (col r c.toNat) hi
  have e1 : (¬ cmpB (aheadB i c ++ (keyV (col r c.toNat) ++ t)) (boundB (aheadB i c) lo) < 0) ↔ ¬ cmpV (col r c.toNat) lo < 0 := by rw [h1]; omega
  rw [e1]
  have hkeep : keepB c.toNat lo hi r = true ↔ ¬ cmpV (col r c.toNat) lo < 0 ∧ (hi.k = 0 ∨ cmpV (col r c.toNat) hi < 0) := by
    rw [keepB]
    simp only [Bool.not_eq_true', Bool.or_eq_false_iff, Bool.and_eq_false_iff, decide_eq_false_iff_not, Decidable.not_not, Int.not_le]
  rw [hkeep]
  refine and_congr_right fun _ => ?_
  by_cases hk : hi.k = 0
  · rw [toB, if_pos hk]
    refine ⟨fun _ => .inr ?_, fun _ => .inl hk⟩
    rw [cmpB_append]
    exact keyV_lt_255 _ hr.1 _ _
  rw [toB, if_neg hk]
  have hne : boundB (aheadB i c) hi ≠ [] := by
    rw [boundB_form]
    intro e
    have := (List.append_eq_nil_iff.1 e).1
    unfold aheadB at this
    split at this <;> simp at this
  rw [h2]
  constructor
  · rintro (h | h)
    · exact absurd h hk
    exact .inr (by omega)
  rintro (h | h)
  · exact absurd h hne
  exact .inr (by omega)
structure IsPos (c : Nat) (r : List V) (out : List (List V)) (j : Nat) : Prop where
  le : j ≤ out.length
  hi : ∀ q (h : q < out.length), j ≤ q → 0 < cmpV (col out[q] c) (col r c)
  lo : ∀ q (h : q < out.length), q + 1 = j → ¬ 0 < cmpV (col out[q] c) (col r c)
theorem isPos_ins {c : Int} {r : List V} {out : List (List V)} {j : Nat} (hp : IsPos c.toNat r out j) (hs : out.Pairwise fun a b => cmpB (kv c a) (kv c b) < 0) (ho : ∀ x ∈ out, okV (col x c.toNat) ∧ okV (col x 0)) (hr : okV (col r c.toNat) ∧ okV (col r 0))
    (h0 : ∀ x ∈ out, cmpV (col x 0) (col r 0) = -1) : (out.take j ++ r :: out.drop j).Pairwise fun a b => cmpB (kv c a) (kv c b) < 0 := by
  have hab : ∀ a ∈ out.take j, cmpB (kv c a) (kv c r) < 0 := fun a ha => by
    obtain ⟨q, hq, rfl⟩ := List.getElem_of_mem ha
    rw [List.length_take] at hq
    rw [List.getElem_take]
    have hqo : q < out.length := by omega
    have hjle := hp.le
    obtain ⟨m, rfl⟩ : ∃ m, j = m + 1 := ⟨j - 1, by omega⟩
    have hmo : m < out.length := by omega
    have oa := ho _ (List.getElem_mem hqo)
    have om := ho _ (List.getElem_mem hmo)
    have hm := hp.lo m hmo rfl
    have hne1 : cmpV (col out[q] c.toNat) (col r c.toNat) ≠ 1 := fun h1 => by
      have k1 : cmpV (col r c.toNat) (col out[q] c.toNat) = -1 := by rw [cmpV_swap, h1]
      rcases Nat.lt_or_ge q m with hqm | hqm
      · have k2 := (List.pairwise_iff_getElem.1 hs) q m hqo hmo hqm
        have k3 := kv_lt hr.1 oa.1 k1
        have k4 := cmpB_trans k3 k2
        rcases cmpV_three (col out[m] c.toNat) (col r c.toNat) with g | g | g
        · have := kv_lt om.1 hr.1 g
          have s := cmpB_swap (kv c r) (kv c out[m])
          omega
        · have e := cmpV_zero om.1 hr.1 g
          obtain ⟨t, ht⟩ := kv_form c out[q]
          obtain ⟨u, hu⟩ := kv_form c out[m]
          rw [ht, hu, e] at k2
          have := keyV_lt hr.1 oa.1 k1 u t
          have s := cmpB_swap (keyV (col r c.toNat) ++ u) (keyV (col out[q] c.toNat) ++ t)
          omega
        omega
      have : q = m := by omega
      subst this
      omega
    rcases cmpV_three (col out[q] c.toNat) (col r c.toNat) with g | g | g
    · exact kv_lt oa.1 hr.1 g
    · have e := cmpV_zero oa.1 hr.1 g
      have h00 := h0 _ (List.getElem_mem hqo)
      by_cases hc : c = 0
      · subst hc
        exact absurd e (ne_of_cmp h00)
      have e1 : kv c out[q] = keyV (col out[q] c.toNat) ++ (keyV (col out[q] 0) ++ []) := by simp [kv, valsOf, keyL, hc]
      have e2 : kv c r = keyV (col r c.toNat) ++ (keyV (col r 0) ++ []) := by simp [kv, valsOf, keyL, hc]
      rw [e1, e2, e, cmpB_append, keyV_lt oa.2 hr.2 h00]
      decide
    exact absurd g hne1
  have hb : ∀ b ∈ out.drop j, cmpB (kv c r) (kv c b) < 0 := fun b hb => by
    obtain ⟨q, hq, rfl⟩ := List.getElem_of_mem hb
    rw [List.length_drop] at hq
    rw [List.getElem_drop]
    have hq' : j + q < out.length := by omega
    have k := hp.hi (j + q) hq' (by omega)
    refine kv_lt hr.1 (ho _ (List.getElem_mem hq')).1 ?_
    rw [cmpV_swap]
    rcases cmpV_three (col out[j + q] c.toNat) (col r c.toNat) with g | g | g <;> omega
  refine List.pairwise_append.2 ⟨hs.sublist (List.take_sublist _ _), List.pairwise_cons.2 ⟨hb, hs.sublist (List.drop_sublist _ _)⟩, fun a ha b hb' => ?_⟩
  rcases List.mem_cons.1 hb' with rfl | hb'
  · exact hab a ha
  exact cmpB_trans (hab a ha) (hb b hb')
structure ScanI (rows : List (List V)) (c : Int) (lo hi : V) (k : Nat) (out : List (List V)) : Prop where
  srt : out.Pairwise fun a b => cmpB (kv c a) (kv c b) < 0
  mem : ∀ r, r ∈ out ↔ r ∈ rows.take k ∧ keepB c.toNat lo hi r = true
theorem ScanI.zero (rows : List (List V)) (c : Int) (lo hi : V) : ScanI rows c lo hi 0 [] := ⟨List.Pairwise.nil, fun r => by simp⟩
section
variable {rows out : List (List V)} {c : Int} {lo hi : V} {k : Nat}
theorem ScanI.skip (h : ScanI rows c lo hi k out) (hk : k < rows.length) (hn : keepB c.toNat lo hi rows[k] = false) : ScanI rows c lo hi (k + 1) out := by
  refine ⟨h.srt, fun r => ?_⟩
  rw [h.mem, List.take_succ_eq_append_getElem hk]
  simp only [List.mem_append, List.mem_singleton]
  constructor
  · rintro ⟨h1, h2⟩; exact ⟨.inl h1, h2⟩
  rintro ⟨h1 | rfl, h2⟩
  · exact ⟨h1, h2⟩
  rw [hn] at h2; cases h2
theorem ScanI.step (h : ScanI rows c lo hi k out) (hk : k < rows.length) (hy : keepB c.toNat lo hi rows[k] = true) (hs : rows.Pairwise fun a b => cmpV (col a 0) (col b 0) = -1) (ho : ∀ r ∈ rows, ∀ q, okV (col r q)) {j : Nat} (hp : IsPos c.toNat rows[k] out j) : ScanI rows c lo hi (k + 1) (out.take j ++ rows[k] :: out.drop j) := by
  have hin : ∀ x ∈ out, x ∈ rows := fun x hx => List.mem_of_mem_take ((h.mem x).1 hx).1
  refine ⟨isPos_ins hp h.srt (fun x hx => ⟨ho x (hin x hx) _, ho x (hin x hx) _⟩) ⟨ho _ (List.getElem_mem hk) _, ho _ (List.getElem_mem hk) _⟩ fun x hx => ?_, fun r => ?_⟩
  · obtain ⟨q, hq, rfl⟩ := List.getElem_of_mem ((h.mem x).1 hx).1
    rw [List.length_take] at hq
    rw [List.getElem_take]
    exact (List.pairwise_iff_getElem.1 hs) q k (by omega) hk (by omega)
  have hd : r ∈ out.take j ++ rows[k] :: out.drop j ↔ r ∈ out ∨ r = rows[k] := by
    have : r ∈ out ↔ r ∈ out.take j ∨ r ∈ out.drop j := by rw [← List.mem_append, List.take_append_drop]
    rw [this, List.mem_append, List.mem_cons]
    constructor
    · rintro (h | h | h)
      · exact .inl (.inl h)
      · exact .inr h
      exact .inl (.inr h)
    rintro ((h | h) | h)
    · exact .inl h
    · exact .inr (.inr h)
    exact .inr (.inl h)
  rw [hd, h.mem, List.take_succ_eq_append_getElem hk]
  simp only [List.mem_append, List.mem_singleton]
  constructor
  · rintro (⟨h1, h2⟩ | rfl)
    · exact ⟨.inl h1, h2⟩
    exact ⟨.inr rfl, hy⟩
  rintro ⟨h1 | rfl, h2⟩
  · exact .inl ⟨h1, h2⟩
  exact .inr rfl
end
theorem scan_both {D : List Tb} {i : Nat} {T U : Tb} {c : Int} {lo hi : V} {S X : List (List V)} (ho : Ok D) (hT : D[i]? = some T) (hR : RefT T U) (hlo : okV lo) (hhi : okV hi) (hS : ScanL T i c lo hi S) (hX : ScanI U.rows c lo hi U.rows.length X) : S = X := by
  refine srt_ext (f := kv c) (hS.srt.imp fun {a b} h => by rwa [scan_cmp] at h) hX.srt fun r => ?_
  rw [hS.mem, hX.mem, List.take_length, hR.mem]
  refine and_congr_right fun hr => ?_
  have hrc := (ho.fit i T hT r hr).col (ho.right i T hT) c.toNat
  exact (keep_in hrc.1 hrc.2 hlo hhi).symm
end Go.Proofs.YtekokogmnhlchaaGreatDoor
