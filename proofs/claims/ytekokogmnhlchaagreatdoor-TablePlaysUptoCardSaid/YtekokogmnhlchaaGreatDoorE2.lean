import Derived.Test.YtekokogmnhlchaaGreatDoorD2
import Derived.Test.YtekokogmnhlchaaGreatDoorD3
set_option linter.unusedSimpArgs false
set_option linter.unusedVariables false
set_option linter.unusedSectionVars false
namespace Go.Proofs.YtekokogmnhlchaaGreatDoor
open Go.RowKit
def Dull : Value → Prop
  | .int .u8 _ => False
  | .pointer _ => False
  | .bool _ => False
  | _ => True
section
variable {B0 db sb n g : Nat} {w0 w w' : World} {L : List Chg} {D : List Tb} {cs : Array Value} {t : TypeId}
theorem Dull.ne (hg : Blk w g cs t) (hd : ∀ v ∈ cs.toList, Dull v) {b o : Nat} {v : Value} (hc : C w b o v) (hv : ¬ Dull v) : b ≠ g := by
  rintro rfl
  unfold C at hc
  rw [cell_of_row w b o cs t (0, 0) hg] at hc
  exact hv (hd v (Array.mem_toList_iff.2 (Array.mem_of_getElem? hc)))
theorem RdS.off (hg : Blk w g cs t) (hd : ∀ v ∈ cs.toList, Dull v) (h : Aside g w w') {A : Option Addr} {m : Nat} {key : List UInt8} (hr : RdS B0 w 1 A m (bys key)) : RdS B0 w' 1 A m (bys key) := by
  rcases hr.2 with h0 | ⟨b, o, hA, hlt, hs⟩
  · exact ⟨⟨hr.1.1, .inl h0⟩, .inl h0⟩
  rcases Nat.eq_zero_or_pos m with h0 | hp
  · exact ⟨⟨hr.1.1, .inl h0⟩, .inl h0⟩
  have hl := hr.1.1
  have hk : (bys key).length = key.length := by simp [bys]
  rcases hr.1.2 with h0 | ⟨b', o', hA', hc⟩
  · omega
  rw [hA] at hA'
  injection hA' with hA'
  injection hA' with e1 e2 _
  subst e1 e2
  have hbg : b ≠ g := by
    have h0 := hc 0 (by omega)
    have hkl : 0 < key.length := by omega
    have : (bys key)[0]? = some (.int .u8 ((key[0]).toNat : Int)) := by simp [bys, hkl]
    rw [this] at h0
    exact Dull.ne hg hd h0 (by simp [Dull])
  have hbl := h.same b hlt hbg
  exact ⟨⟨hr.1.1, .inr ⟨b, o, hA, fun j hj => (World.cell?_of_block (w := w) (w' := w') (a := ⟨b, o + j, none⟩) hbl).trans (hc j hj)⟩⟩, .inr ⟨b, o, hA, Nat.lt_of_lt_of_le hlt h.size, hs.move hbl⟩⟩
theorem StoreS.off (hg : Blk w g cs t) (hd : ∀ v ∈ cs.toList, Dull v) (h : Aside g w w') (hs : StoreS B0 w sb) : StoreS B0 w' sb := by
  obtain ⟨tb, pb, kb, life, h1, h2, h3, h4, h5, h6, h7, s1, s2, s3, s4⟩ := hs
  have n1 := Dull.ne hg hd h1 (by simp [Dull])
  have n2 := Dull.ne hg hd h2 (by simp [Dull])
  have n3 := Dull.ne hg hd h4 (by simp [Dull])
  have n4 := Dull.ne hg hd h6 (by simp [Dull])
  have mv : ∀ {b o : Nat} {v : Value}, C w b o v → b ≠ g → C w' b o v := fun {b o v} hc hb => (World.cell?_of_block (w := w) (w' := w') (a := ⟨b, o, none⟩) (h.same b hc.lt hb)).trans hc
  exact ⟨tb, pb, kb, life, mv h1 n1, mv h2 n2, mv h3 n2, mv h4 n3, mv h5 n3, mv h6 n4, mv h7 n4, s1.move (h.same _ h1.lt n1), s2.move (h.same _ h2.lt n2), s3.move (h.same _ h4.lt n3), s4.move (h.same _ h6.lt n4)⟩
theorem DraftAt.off (hdr : DraftAt B0 w db sb L) (hg : Blk w g cs t) (hd : ∀ v ∈ cs.toList, Dull v) (h1 : t ≠ 136) (h2 : t ≠ 155) (h : Aside g w w') : DraftAt B0 w' db sb L := by
  have hlt := hdr.lt
  have hne : ∀ k, Foot w db k → k ≠ g := fun k hf e => by
    obtain ⟨_, cs', T, fr, h3, h4⟩ := hdr.foot hf
    subst e
    have hg' : w.heap[k]? = _ := hg
    rw [h3] at hg'
    injection hg' with hg'
    injection hg' with _ h8 _
    subst h8
    exact h4.elim h1 h2
  obtain ⟨A, c, xs, he, hB, hown, hE, hs⟩ := hdr.ex
  refine ⟨A, c, xs, (h.same db hlt (hne db (.inl rfl))).trans he, hB, ?_, hE.mono fun x v _ hx => ?_, hs.off hg hd h⟩
  · refine ⟨hown.1, ?_⟩
    rcases hown.2 with h0 | ⟨g', cap, cur, hv, hb, hh, hr⟩
    · exact .inl h0
    refine .inr ⟨g', cap, cur, hv, hb, ?_, hr⟩
    refine (h.same g' (Array.getElem?_eq_some_iff.1 hh).1 (hne g' (.inr ⟨_, _, _, _, he, ?_⟩))).trans hh
    rw [hv]; rfl
  obtain ⟨A, n, c1, B, m, d, hx, k1, k2⟩ := hx
  exact ⟨A, n, c1, B, m, d, hx, k1.off hg hd h, k2.off hg hd h⟩
theorem St.off (st : St B0 w0 w db sb n D) (hg : Blk w g cs t) (hd : ∀ v ∈ cs.toList, Dull v) (h1 : t ≠ 136) (h2 : t ≠ 155) (h : Aside g w w') (h3 : 3 ≤ g) : St B0 w' w' db sb n D := by
  obtain ⟨L, hdb, hn⟩ := st.ex
  refine ⟨Nat.le_trans st.le h.size, Below.refl _ _, L, ⟨hdb.d.off hg hd h1 h2 h, hdb.rep, hdb.cnt, hdb.ok, hdb.small, ?_, hdb.b0⟩, hn⟩
  have mv : ∀ {b o : Nat} {v : Value}, b < 3 → C w b o v → C w' b o v := fun {b o v} hb hc => (World.cell?_of_block (w := w) (w' := w') (a := ⟨b, o, none⟩) (h.same b hc.lt (by omega))).trans hc
  exact ⟨fun c hc => mv (show (1 : Nat) < 3 by omega) (hdb.tabs.1 c hc), fun i hi => ⟨mv (show (2 : Nat) < 3 by omega) (hdb.tabs.2 i hi).1, mv (show (2 : Nat) < 3 by omega) (hdb.tabs.2 i hi).2⟩⟩
theorem Aside.setRow (w : World) (b : Nat) (cs : Array Value) : Aside b w (w.setRow b cs) :=
  ⟨rfl, rfl, rfl, by rw [size_setRow]; exact Nat.le_refl _, fun k _ hk => heap_setRow_ne w b cs k hk⟩
end
end Go.Proofs.YtekokogmnhlchaaGreatDoor
