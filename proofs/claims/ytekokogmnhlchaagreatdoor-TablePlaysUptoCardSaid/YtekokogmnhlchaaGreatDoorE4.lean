import Derived.Test.YtekokogmnhlchaaGreatDoorD7
import Derived.Test.YtekokogmnhlchaaGreatDoorA1
import Derived.Test.YtekokogmnhlchaaGreatDoorD3
import Derived.OrdersHeld
import Derived.Deep.RegionHeld
set_option linter.unusedSimpArgs false
set_option linter.unusedVariables false
set_option linter.unusedSectionVars false
namespace Go.Proofs.YtekokogmnhlchaaGreatDoor
open Go.RowKit
section
variable {D : List Tb} {i : Nat} {T : Tb} {c : Int}
theorem scanK_form (i : Nat) (c : Int) (r : List V) : ∃ t, scanK i c r = aheadB i c ++ (keyV (col r c.toNat) ++ t) := by
  by_cases hc : c = 0
  · subst hc; exact ⟨[], by simp [scanK, valsOf, keyL]⟩
  exact ⟨keyV (col r 0), by simp [scanK, valsOf, keyL, hc]⟩
end
section
variable {P : Program} {ops : Array Oper} {Q : Exit → Act → World → Prop} {S : World → Prop} {L : Nat}
def wpAnyE (P : Program) (ops : Array Oper) (Q : Exit → Act → World → Prop) (S : World → Prop) (L : Nat) : Nat → Array Bool → Act → World → Prop
  | 0, listed, a, w => Region.ready .any ops listed = [] ∧ Q .normal a w
  | n + 1, listed, a, w => (Region.ready .any ops listed = [] → Q .normal a w) ∧
    ∀ i ∈ Region.ready .any ops listed, wpOp P ops Q i (fun a' w' => (i = L ∨ S w') ∧ wpAnyE P ops Q S L n (listed.setIfInBounds i true) a' w') a w
theorem wpAny_of_E : ∀ (n : Nat) (listed : Array Bool) (a : Act) (w : World), wpAnyE P ops Q S L n listed a w → wpAny P .any ops Q n listed a w
  | 0, _, _, _, h => h
  | n + 1, _, _, _, h => ⟨h.1, fun i hi => wpOp_mono (fun a' w' h' => wpAny_of_E n _ a' w' h'.2) (h.2 i hi)⟩
def waitB (ops : Array Oper) (L i : Nat) : Bool := match ops[L]? with
  | some o => o.after.any fun e => Region.binds .any e && e.on == i
  | none => false
theorem last_waits {i : Nat} (h : waitB ops L i = true) {listed : Array Bool} (hi : i ∈ Region.ready .any ops listed) (hj : L ∈ Region.ready .any ops listed) : False := by
  obtain ⟨hin, oi, hoi, _⟩ := mem_ready.1 hi
  obtain ⟨_, oL, hoL, hall⟩ := mem_ready.1 hj
  rw [waitB, hoL] at h
  obtain ⟨e, he, hb⟩ := Array.any_eq_true'.1 h
  simp only [Bool.and_eq_true, beq_iff_eq] at hb
  have h2 := hall e he hb.1
  rw [hb.2] at h2
  rcases Nat.lt_or_ge i listed.size with h' | h'
  · simp [h'] at hin h2; rw [hin] at h2; cases h2
  simp [Array.getElem?_eq_none h'] at h2
theorem wpAnyE_first {i : Nat} (hL : waitB ops L i = true) {oi : Oper} {v : Value} (hi : ops[i]? = some oi) (hsel : ∀ (j : Nat) (o : Oper) cs b, ops[j]? = some o → o.op ≠ .select cs b)
    (hQ : ∀ c a w, Q (.panic c) (a.put oi.dst v) w → Q (.panic c) a w) (n : Nat) : ∀ (listed : Array Bool) (a : Act) (w : World),
      (∀ j oj, ops[j]? = some oj → j ≠ i → listed.getD j true = false → (∀ e ∈ oj.after, Region.binds .any e = true → e.on ≠ i) → oi.apart ops oj = true) →
      i ∈ Region.ready .any ops listed → YieldsIf P ops S oi v a → S w →
      wpAnyE P ops Q S L n (listed.setIfInBounds i true) (a.put oi.dst v) w → wpAnyE P ops Q S L (n + 1) listed a w := by
  induction n with
  | zero =>
    intro listed a w _ hr hy hS H
    refine ⟨fun h => absurd hr (by rw [h]; exact List.not_mem_nil), fun j hj => ?_⟩
    by_cases hji : j = i
    · subst hji
      exact hy.wpOp hi hS ⟨.inr hS, H⟩
    have := ready_mono hj hji
    rw [H.1] at this
    exact absurd this List.not_mem_nil
  | succ n ih =>
    intro listed a w hfree hr hy hS H
    refine ⟨fun h => absurd hr (by rw [h]; exact List.not_mem_nil), fun j hj => ?_⟩
    by_cases hji : j = i
    · subst hji
      exact hy.wpOp hi hS ⟨.inr hS, H⟩
    obtain ⟨hjun, oj, hoj, hall⟩ := mem_ready.1 hj
    have hnot : ∀ e ∈ oj.after, Region.binds .any e = true → e.on ≠ i := fun e he hb heq => by
      have h1 := hall e he hb
      have h0 := (mem_ready.1 hr).1
      rw [heq] at h1
      rcases Nat.lt_or_ge i listed.size with h' | h'
      · simp [h'] at h0 h1; rw [h0] at h1; cases h1
      simp [Array.getElem?_eq_none h'] at h1
    have hjL : j ≠ L := fun e => last_waits hL hr (e ▸ hj)
    refine wpOp_mono (fun a' w' h3 => ?_) (wpOp_putIf hoj (hfree j oj hoj hji hjun hnot) (fun cs b => hsel i oi cs b hi) (fun cs b => hsel j oj cs b hoj) hQ hy (H.2 j (ready_mono hj hji)))
    obtain ⟨h4, h5, h6⟩ := h3
    have hS' : S w' := h5.resolve_left hjL
    refine ⟨.inr hS', ih (listed.setIfInBounds j true) a' w' (fun k ok hk hki hun hno => hfree k ok hk hki ?_ hno) (ready_mono hr (Ne.symm hji)) h4 hS' ?_⟩
    · by_cases hjk : j = k
      · subst hjk; exact hjun
      rw [getD_set_ne true hjk] at hun; exact hun
    rw [Array.setIfInBounds_comm _ _ hji]
    exact h6
theorem wpAnyE_take {i : Nat} {oi : Oper} {v : Value} {n : Nat} {listed : Array Bool} {a : Act} {w : World} (hL : waitB ops L i = true) (hi : ops[i]? = some oi)
    (hs : Region.noSelect ops = true) (hf : Region.free .any ops listed i = true) (hr : (Region.ready .any ops listed).contains i = true)
    (hQ : ∀ c a w, Q (.panic c) (a.put oi.dst v) w → Q (.panic c) a w) (hw : Region.wanted oi (yielded ops a.tmps) = true) (hS : S w)
    (hy : ∀ w, S w → (execOp a.eval oi).run P w = .ok (.value v) w)
    (h : wpAnyE P ops Q S L n (listed.setIfInBounds i true) (a.put oi.dst v) w) : wpAnyE P ops Q S L (n + 1) listed a w :=
  wpAnyE_first hL hi (Region.noSelect_spec hs) hQ n listed a w (Region.free_spec hi hf) (by simpa using hr) (.inl ⟨hw, hy⟩) hS h
theorem wpAnyE_one {i : Nat} {o : Oper} {n : Nat} {listed : Array Bool} {a : Act} {w : World} (hr : Region.ready .any ops listed = [i]) (ho : ops[i]? = some o) (hw : Region.wanted o (yielded ops a.tmps) = true)
    (h : ∀ K : Act → World → Prop, (∀ a w, (i = L ∨ S w) → wpAnyE P ops Q S L n (listed.setIfInBounds i true) a w → K a w) → o.wp P a w K Q) : wpAnyE P ops Q S L (n + 1) listed a w := by
  refine ⟨fun h0 => (by rw [hr] at h0; cases h0), fun j hj => ?_⟩
  rw [hr] at hj
  have : j = i := by simpa using hj
  subst this
  unfold wpOp
  simp only [ho, hw, if_true]
  exact .inl (h _ fun a w h1 h2 => ⟨h1, h2⟩)
theorem wpAnyE_done {listed : Array Bool} {a : Act} {w : World} (hr : Region.ready .any ops listed = []) (h : Q .normal a w) : ∀ n, wpAnyE P ops Q S L n listed a w
  | 0 => ⟨hr, h⟩
  | _ + 1 => ⟨fun _ => h, by rw [hr]; simp⟩
theorem wp_region_E {id : Nat} {a : Act} {w : World} (L : Nat) (S : World → Prop) (hm : P.follows .mixedOrders = true)
    (h : wpAnyE P ops Q S L ops.size (Array.replicate ops.size false) a w.drew) : (Code.region id ops true).wp P Q a w :=
  wp_region_any hm (wpAny_of_E _ _ _ _ h)
end
theorem oper_assign {P : Program} {w : World} {o : Oper} {a : Act} {K : Act → World → Prop} {Q : Exit → Act → World → Prop} {x : Operand} {v : Value} (ho : o.op = .assign x) (hv : a.eval x = v) (h : K (a.put o.dst v) w) : o.wp P a w K Q := by
  unfold Oper.wp execOp
  simp only [ho, hv, Sem.run_bind, Sem.run_pure, Result.andThen_ok]
  exact h
end Go.Proofs.YtekokogmnhlchaaGreatDoor
