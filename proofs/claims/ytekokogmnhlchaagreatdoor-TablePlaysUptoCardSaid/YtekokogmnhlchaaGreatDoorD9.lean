import Derived.Test.YtekokogmnhlchaaGreatDoorD5
import Derived.Test.YtekokogmnhlchaaGreatDoorD7
import Derived.Test.YtekokogmnhlchaaGreatDoorD2
import Derived.Test.YtekokogmnhlchaaGreatDoorD4
import Derived.Test.YtekokogmnhlchaaGreatDoorD3
import Derived.Test.YtekokogmnhlchaaGreatDoorD6
import Derived.Deep.CutBlock
set_option linter.unusedSimpArgs false
set_option linter.unusedVariables false
set_option linter.unusedSectionVars false
namespace Go.Proofs.YtekokogmnhlchaaGreatDoor
open Go.RowKit
def OutR (N : Nat) (w : World) (A : Option Addr) (c n : Nat) (L : List (List V)) : Prop := L.length = n ∧ ∃ sl : List Value, w.ownsRow N 33 1 (.slice A n c) n sl ∧
  ∀ (j : Nat) (r : List V), L[j]? = some r → ∃ g cj, sl[j]? = some (.slice (some ⟨g, 0, none⟩) r.length cj) ∧ w.ownsRow N 28 3 (.slice (some ⟨g, 0, none⟩) r.length cj) r.length (rowCells r)
section
variable {N n c : Nat} {w w' : World} {A : Option Addr} {L : List (List V)}
theorem OutR.nil (N : Nat) (w : World) : OutR N w none 0 0 [] := ⟨rfl, [], World.ownsRow_nil _ _ _ _, fun j r h => by simp at h⟩
theorem OutR.below (h : OutR N w A c n L) (hb : Below w.heap.size w w') : OutR N w' A c n L := by
  obtain ⟨h0, sl, h1, h2⟩ := h
  exact ⟨h0, sl, own_below h1 hb, fun j r hj => by obtain ⟨g, cj, h3, h4⟩ := h2 j r hj; exact ⟨g, cj, h3, own_below h4 hb⟩⟩
theorem OutR.mono {M : Nat} (h : OutR N w A c n L) (hM : M ≤ N) : OutR M w A c n L := by
  obtain ⟨h0, sl, h1, h2⟩ := h
  exact ⟨h0, sl, own_mono h1 hM, fun j r hj => by obtain ⟨g, cj, h3, h4⟩ := h2 j r hj; exact ⟨g, cj, h3, own_mono h4 hM⟩⟩
theorem own_away {e k m : Nat} {v : Value} {xs : List Value} (h : w.ownsRow N e k v m xs) {b : Nat} (hb : b < N) : v.ownBlock = none ∨ v.ownBlock ≠ some b := by
  refine .inr fun he => ?_
  have := (own_bnd h b he).1
  omega
theorem OutR.kept (h : OutR N w A c n L) {b : Nat} (hg : w.grownBy w' (some b)) (hb : b < N) : OutR N w' A c n L := by
  obtain ⟨h0, sl, h1, h2⟩ := h
  exact ⟨h0, sl, h1.kept hg (own_away h1 hb), fun j r hj => by obtain ⟨g, cj, h3, h4⟩ := h2 j r hj; exact ⟨g, cj, h3, h4.kept hg (own_away h4 hb)⟩⟩
theorem own_diff {N' e e' k k' m m' : Nat} {v u : Value} {xs ys : List Value} (h : w.ownsRow N e k v m xs) (h' : w.ownsRow N' e' k' u m' ys) (hne : e ≠ e') : v.ownBlock = none ∨ v.ownBlock ≠ u.ownBlock := by
  rcases h.2 with ⟨h0, _⟩ | ⟨g, cap, cur, h0, h1, h2, _⟩
  · rw [h0]; exact .inl rfl
  right
  intro he
  rcases h'.2 with ⟨k0, _⟩ | ⟨g', cap', cur', k0, k1, k2, _⟩
  · rw [h0, k0] at he; cases he
  rw [h0, k0] at he
  have hg : g = g' := by simpa [Value.ownBlock] using he
  subst hg
  rw [h2] at k2
  injection k2 with k2
  injection k2 with _ k3 _
  exact hne k3
theorem OutR.push {sl : List Value} {A5 : Option Addr} {c5 g cj : Nat} {w5 : World} {r : List V} (h0 : L.length = n) (h1 : w.ownsRow N 33 1 (.slice A n c) n sl)
    (h2 : ∀ (j : Nat) (r : List V), L[j]? = some r → ∃ g cj, sl[j]? = some (.slice (some ⟨g, 0, none⟩) r.length cj) ∧ w.ownsRow N 28 3 (.slice (some ⟨g, 0, none⟩) r.length cj) r.length (rowCells r))
    (hr : w.ownsRow N 28 3 (.slice (some ⟨g, 0, none⟩) r.length cj) r.length (rowCells r))
    (h5 : w5.ownsRow N 33 1 (.slice A5 (n + 1) c5) (n + 1) (sl ++ [.slice (some ⟨g, 0, none⟩) r.length cj])) (hg : w.grownBy w5 (Value.slice A n c).ownBlock) : OutR N w5 A5 c5 (n + 1) (L ++ [r]) := by
  refine ⟨by rw [List.length_append, h0]; rfl, _, h5, fun j q hj => ?_⟩
  have hsl : sl.length = n := by have := own_len h1; omega
  by_cases hjn : j < n
  · rw [List.getElem?_append_left (by omega)] at hj
    obtain ⟨g', cj', h3, h4⟩ := h2 j q hj
    exact ⟨g', cj', by rw [List.getElem?_append_left (by omega)]; exact h3, h4.kept hg (own_diff h4 h1 (by decide))⟩
  have hje : j = n := by
    have := (List.getElem?_eq_some_iff.1 hj).1
    rw [List.length_append] at this
    simp at this
    omega
  subst hje
  rw [List.getElem?_append_right (by omega)] at hj
  simp [h0] at hj
  subst hj
  exact ⟨g, cj, by rw [List.getElem?_append_right (by omega), hsl]; simp, hr.kept hg (own_diff hr h1 (by decide))⟩
theorem OutR.at_ (h : OutR N w A c n L) (j : Nat) (hj : j < n) {r : List V} (hr : L[j]? = some r) (hp : 0 < r.length) :
    ∃ b g cj, A = some ⟨b, 0, none⟩ ∧ C w b j (.slice (some ⟨g, 0, none⟩) r.length cj) ∧ r.length ≤ cj ∧ w.ownsRow N 28 3 (.slice (some ⟨g, 0, none⟩) r.length cj) r.length (rowCells r) ∧
      C w g 0 (.int .i64 (col r 0).k) ∧ C w g 1 (.int .i64 (col r 0).n) ∧ C w g 2 (.string (col r 0).s) := by
  obtain ⟨h0, sl, h1, h2⟩ := h
  obtain ⟨g, cj, h3, h4⟩ := h2 j r hr
  obtain ⟨b, rfl, _, _⟩ := own_ptr h1 (by omega)
  obtain ⟨A', c', he, hc, _⟩ := own_form h4
  injection he with _ _ he
  subst he
  have hrl : 3 ≤ (rowCells r).length := by have := own_len h4; omega
  have e0 : (rowCells r)[0]? = some (.int .i64 (col r 0).k) := by cases r with | nil => simp at hp | cons v t => rfl
  have e1 : (rowCells r)[1]? = some (.int .i64 (col r 0).n) := by cases r with | nil => simp at hp | cons v t => rfl
  have e2 : (rowCells r)[2]? = some (.string (col r 0).s) := by cases r with | nil => simp at hp | cons v t => rfl
  exact ⟨b, g, cj, rfl, (h1.cellAt j (by omega)).trans h3, hc, h4, (h4.cellAt 0 (by omega)).trans e0, (h4.cellAt 1 (by omega)).trans e1, (h4.cellAt 2 (by omega)).trans e2⟩
theorem Rd.one {g : Nat} {v : V} (h0 : C w g 0 (.int .i64 v.k)) (h1 : C w g 1 (.int .i64 v.n)) (h2 : C w g 2 (.string v.s)) : Rd w 3 (some ⟨g, 0, none⟩) 1 (rowCells [v]) := by
  refine ⟨rfl, .inr ⟨g, 0, rfl, fun j hj => ?_⟩⟩
  have hj3 : j < 3 := hj
  rw [Nat.zero_add]
  match j, hj3 with
  | 0, _ => exact h0
  | 1, _ => exact h1
  | 2, _ => exact h2
theorem RowsAt.out {base : Nat} (h : RowsAt base w A n L) (hp : ∀ r ∈ L, 0 < r.length) : ∃ cl, OutR base w A cl n L := by
  obtain ⟨sl, ⟨_, cl, h1⟩, h2, h3⟩ := h
  refine ⟨cl, h2, sl, h1, fun j r hj => ?_⟩
  obtain ⟨Aj, cj, h4, h5⟩ := h3 j r hj
  obtain ⟨g, rfl, _⟩ := own_ptr h5 (hp r (List.mem_of_getElem? hj))
  exact ⟨g, cj, h4, h5⟩
end
def qk (m k : Nat) : Nat := max m (m - 1 + k)
theorem OutR.len {N n c : Nat} {w : World} {A : Option Addr} {L : List (List V)} (h : OutR N w A c n L) : L.length = n := h.1
theorem OutR.apart {N n c m c' : Nat} {w w' : World} {A A' : Option Addr} {L L' : List (List V)} (h : OutR N w A c n L) (h' : OutR w.heap.size w' A' c' m L') : (Value.slice A' m c').ownBlock = none ∨ (Value.slice A' m c').ownBlock ≠ (Value.slice A n c).ownBlock := by
  obtain ⟨_, sl, h1, _⟩ := h
  obtain ⟨_, sl', h2, _⟩ := h'
  cases he : (Value.slice A' m c').ownBlock with
  | none => exact .inl rfl
  | some g =>
    right
    intro e
    have a1 := (own_bnd h2 g he).1
    have a2 := (own_bnd h1 g e.symm).2
    omega
section
variable {B0 db sb n : Nat} {w0 w w' : World} {D : List Tb}
theorem St.names (st : St B0 w0 w db sb n D) (hn : n ≤ 50000) : Calls Tryz.prog 25 #[.pointer (some ⟨db, 0, none⟩)] w (NamesPost D w) := by
  obtain ⟨L, hd, hl⟩ := st.ex
  exact names_any B0 db sb L D w hd (by omega)
theorem OutR.upd {N c m : Nat} {A : Option Addr} {R : List (List V)} (h : OutR N w A c m R) (st : St B0 w0 w db sb n D) (hu : Upd db w w') : OutR N w' A c m R := by
  obtain ⟨h0, sl, h1, h2⟩ := h
  exact ⟨h0, sl, own_upd st h1 (by decide) (by decide) hu, fun j r hj => by obtain ⟨g, cj, h3, h4⟩ := h2 j r hj; exact ⟨g, cj, h3, own_upd st h4 (by decide) (by decide) hu⟩⟩
theorem OutR.read {N c m : Nat} {A : Option Addr} {R : List (List V)} (h : OutR N w A c m R) (hs : ∀ r ∈ R, r.length ≤ 100000000) : RowsR w A m R := by
  obtain ⟨h0, sl, h1, h2⟩ := h
  exact ⟨sl, Rd.of_own h1, h0, fun j r hj => by obtain ⟨g, cj, h3, h4⟩ := h2 j r hj; exact ⟨_, cj, h3, Rd.of_own h4, hs r (List.mem_of_getElem? hj)⟩⟩
theorem OpsAt.one {l : List OpV} {b o m : Nat} (ho : OpsAt B0 w (some ⟨b, o, none⟩) m l) (k : Nat) (hk : k < l.length) : OpsAt B0 w (some ⟨b, o + k * 17, none⟩) 1 [l[k]] := by
  have hfull := ho
  obtain ⟨hl, xs, hr, hE⟩ := ho
  obtain ⟨b', o', cs, he, hop, h17, hc⟩ := hfull.at_ k hk
  injection he with he
  injection he with he1 he2 _
  subst he1 he2
  refine ⟨rfl, cs, ⟨⟨h17, .inr ⟨b, o + k * 17, rfl, fun j hj => hc j (by omega)⟩⟩, ?_⟩, ?_⟩
  · rcases hr.2 with h0 | ⟨b2, o2, he2, h1, h2⟩
    · omega
    injection he2 with he2
    injection he2 with e1 e2 _
    subst e1 e2
    exact .inr ⟨b, o + k * 17, rfl, h1, h2⟩
  refine ⟨[cs], by simp, rfl, fun i h1 h2 => ?_⟩
  simp at h1
  subst h1
  exact ⟨h17, hop⟩
def Mk (w : World) (db k : Nat) : Prop := ∃ A c, C w db 1 (.slice A k c)
theorem Mk.below {k : Nat} (h : Mk w db k) (hb : Below w.heap.size w w') : Mk w' db k := by
  obtain ⟨A, c, h1⟩ := h
  exact ⟨A, c, h1.below hb⟩
end
end Go.Proofs.YtekokogmnhlchaaGreatDoor
