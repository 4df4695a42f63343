import Derived.Test.YtekokogmnhlchaaGreatDoorA1
import Derived.Test.YtekokogmnhlchaaGreatDoorA4
import Derived.Test.YtekokogmnhlchaaGreatDoorA5
import Derived.Deep.RegionHeld3
import Derived.Deep.AppendLies
import Derived.Deep.RegionLaw
set_option linter.unusedSimpArgs false
set_option linter.unusedVariables false
set_option linter.unusedSectionVars false
namespace Go.Proofs.YtekokogmnhlchaaGreatDoor
open Go.RowKit
structure Chg where
  sp : Int
  key : List UInt8
  val : List UInt8
  gone : Bool
def okT (T : TypeId) : Bool := T != 136 && (T != 9 && (T != 3 && T != 33))
def Safe (B0 : Nat) (w : World) (b : Nat) : Prop := b < B0 ∨ ∃ cs T fr, w.heap[b]? = some (.cells cs T fr) ∧ okT T = true ∧ T ≠ 155
def RdS (B0 : Nat) (w : World) (k : Nat) (A : Option Addr) (n : Nat) (xs : List Value) : Prop :=
  Rd w k A n xs ∧ (n = 0 ∨ ∃ b o, A = some ⟨b, o, none⟩ ∧ b < w.heap.size ∧ Safe B0 w b)
section
variable {B0 : Nat} {U U' : World}
theorem Safe.move {b : Nat} (h : Safe B0 U b) (he : U'.heap[b]? = U.heap[b]?) : Safe B0 U' b := by
  rcases h with h | ⟨cs, T, fr, h1, h2⟩
  · exact .inl h
  exact .inr ⟨cs, T, fr, he.trans h1, h2⟩
theorem RdS.move {k n : Nat} {A : Option Addr} {xs : List Value} (h : RdS B0 U k A n xs) (hs : U.heap.size ≤ U'.heap.size) (hm : ∀ b, b < U.heap.size → Safe B0 U b → U'.heap[b]? = U.heap[b]?) : RdS B0 U' k A n xs := by
  rcases h.2 with h0 | ⟨b, o, hA, hlt, hsf⟩
  · exact ⟨⟨h.1.1, .inl h0⟩, .inl h0⟩
  have hbl := hm b hlt hsf
  refine ⟨⟨h.1.1, ?_⟩, .inr ⟨b, o, hA, Nat.lt_of_lt_of_le hlt hs, hsf.move hbl⟩⟩
  rcases h.1.2 with h0 | ⟨b', o', hA', hc⟩
  · exact .inl h0
  rw [hA] at hA'
  injection hA' with hA'
  injection hA' with h1 h2 _
  subst h1 h2
  exact .inr ⟨b, o, hA, fun j hj => (World.cell?_of_block (w := U) (w' := U') (a := ⟨b, o + j, none⟩) hbl).trans (hc j hj)⟩
structure StoreS (B0 : Nat) (w : World) (sb : Nat) : Prop where
  ex : ∃ (tb pb kb : Nat) (life : Int), C w sb 0 (.pointer (some ⟨tb, 0, none⟩)) ∧ C w tb 0 (.pointer (some ⟨pb, 0, none⟩)) ∧ C w tb 1 .nilIface ∧
    C w pb 2 (.pointer (some ⟨kb, 0, none⟩)) ∧ C w pb 3 (.int .i64 life) ∧ C w kb 3 (.bool false) ∧ C w kb 4 (.int .i64 life) ∧ Safe B0 w sb ∧ Safe B0 w tb ∧ Safe B0 w pb ∧ Safe B0 w kb
theorem StoreS.at_ {sb : Nat} (h : StoreS B0 U sb) : StoreAt U sb := by
  obtain ⟨tb, pb, kb, life, h1, h2, h3, h4, h5, h6, h7, _⟩ := h
  exact ⟨tb, pb, h1, h2, h3, kb, life, h4, h5, h6, h7⟩
theorem StoreS.move {sb : Nat} (h : StoreS B0 U sb) (hm : ∀ b, b < U.heap.size → Safe B0 U b → U'.heap[b]? = U.heap[b]?) : StoreS B0 U' sb := by
  obtain ⟨tb, pb, kb, life, h1, h2, h3, h4, h5, h6, h7, s1, s2, s3, s4⟩ := h
  have mv : ∀ {b o : Nat} {v : Value}, C U b o v → Safe B0 U b → C U' b o v := fun {b o v} hc hs => (World.cell?_of_block (w := U) (w' := U') (a := ⟨b, o, none⟩) (hm b hc.lt hs)).trans hc
  exact ⟨tb, pb, kb, life, mv h1 s1, mv h2 s2, mv h3 s2, mv h4 s3, mv h5 s3, mv h6 s4, mv h7 s4, s1.move (hm _ h1.lt s1), s2.move (hm _ h2.lt s2), s3.move (hm _ h4.lt s3), s4.move (hm _ h6.lt s4)⟩
theorem StoreS.below {sb : Nat} (h : StoreS B0 U sb) (hb : Below U.heap.size U U') : StoreS B0 U' sb := h.move fun b hlt _ => hb.block b hlt
end
structure ChgAt (B0 : Nat) (w : World) (c : Chg) (xs : List Value) : Prop where
  ex : ∃ A n c1 B m d, xs = [.int .i64 c.sp, .slice A n c1, .slice B m d, .bool c.gone] ∧ RdS B0 w 1 A n (bys c.key) ∧ RdS B0 w 1 B m (bys c.val)
structure DraftAt (B0 : Nat) (w : World) (db sb : Nat) (L : List Chg) : Prop where
  ex : ∃ A c xs, w.heap[db]? = some (.cells #[.pointer (some ⟨sb, 0, none⟩), .slice A L.length c] 136 (0, 0)) ∧ B0 ≤ db ∧ w.ownsRow B0 155 4 (.slice A L.length c) L.length xs ∧ Els (ChgAt B0 w) 4 L xs ∧ StoreS B0 w sb
def Foot (w : World) (db k : Nat) : Prop := k = db ∨ ∃ s v t fr, w.heap[db]? = some (.cells #[s, v] t fr) ∧ v.ownBlock = some k
structure Upd (db : Nat) (w w' : World) : Prop where
  os : w'.os = w.os
  tape : w'.tape = w.tape
  output : w'.output = w.output
  size : w.heap.size ≤ w'.heap.size
  same : ∀ k, k < w.heap.size → ¬ Foot w db k → w'.heap[k]? = w.heap[k]?
  foot : ∀ k, Foot w' db k → Foot w db k ∨ w.heap.size ≤ k
theorem Upd.refl (db : Nat) (w : World) : Upd db w w := ⟨rfl, rfl, rfl, Nat.le_refl _, fun _ _ _ => rfl, fun _ h => .inl h⟩
theorem Upd.trans {db : Nat} {a b c : World} (h : Upd db a b) (k : Upd db b c) : Upd db a c :=
  ⟨k.os.trans h.os, k.tape.trans h.tape, k.output.trans h.output, Nat.le_trans h.size k.size, fun i hi hf => by
    have hfb : ¬ Foot b db i := fun hb => by
      rcases h.foot i hb with h1 | h1
      · exact hf h1
      omega
    exact (k.same i (Nat.lt_of_lt_of_le hi h.size) hfb).trans (h.same i hi hf), fun i hi => by
    rcases k.foot i hi with h1 | h1
    · exact h.foot i h1
    exact .inr (Nat.le_trans h.size h1)⟩
theorem Upd.of_below {db : Nat} {w w' : World} (h : Below w.heap.size w w') (hdb : db < w.heap.size) : Upd db w w' :=
  ⟨h.os, h.tape, h.output, h.size, fun k hk _ => h.block k hk, fun k hk => by
    rcases hk with rfl | ⟨s, v, t, fr, hv, hb⟩
    · exact .inl (.inl rfl)
    rw [h.block db hdb] at hv
    exact .inl (.inr ⟨s, v, t, fr, hv, hb⟩)⟩
section
variable {B0 db sb : Nat} {w w' : World} {L : List Chg}
theorem DraftAt.lt (h : DraftAt B0 w db sb L) : db < w.heap.size := by
  obtain ⟨A, c, xs, hd, _⟩ := h
  exact (Array.getElem?_eq_some_iff.1 hd).1
theorem DraftAt.foot (h : DraftAt B0 w db sb L) {k : Nat} (hk : Foot w db k) : B0 ≤ k ∧ ∃ cs T fr, w.heap[k]? = some (.cells cs T fr) ∧ (T = 136 ∨ T = 155) := by
  obtain ⟨A, c, xs, hd, hB, hown, _⟩ := h
  rcases hk with rfl | ⟨s, v, t, fr, hv, hb⟩
  · exact ⟨hB, _, _, _, hd, .inl rfl⟩
  rw [hd] at hv
  injection hv with hv
  injection hv with hv _ _
  have hv2 : Value.slice A L.length c = v := by
    have := congrArg (fun a => a[1]?) hv
    simpa using this
  subst hv2
  rcases hown.2 with ⟨h0, _⟩ | ⟨g, cap, cur, hg, hb0, hh, _⟩
  · rw [h0] at hb; cases hb
  rw [hg] at hb
  have : g = k := by simpa [Value.ownBlock] using hb
  subst this
  exact ⟨hb0, _, _, _, hh, .inr rfl⟩
theorem DraftAt.safe (h : DraftAt B0 w db sb L) {k : Nat} (hs : Safe B0 w k) : ¬ Foot w db k := fun hf => by
  obtain ⟨h1, cs, T, fr, h2, h3⟩ := h.foot hf
  rcases hs with h4 | ⟨cs', T', fr', h5, h6, h7⟩
  · omega
  rw [h2] at h5
  injection h5 with h5
  injection h5 with _ h8 _
  subst h8
  rcases h3 with h3 | h3
  · rw [h3] at h6; exact absurd h6 (by decide)
  exact h7 h3
theorem Safe.upd {k : Nat} (hs : Safe B0 w k) (hd : DraftAt B0 w db sb L) (hu : Upd db w w') (hk : k < w.heap.size) : Safe B0 w' k := by
  rcases hs with h | ⟨cs, T, fr, h1, h2⟩
  · exact .inl h
  exact .inr ⟨cs, T, fr, (hu.same k hk (hd.safe (.inr ⟨cs, T, fr, h1, h2⟩))).trans h1, h2⟩
theorem Safe.below {k : Nat} (hs : Safe B0 w k) (hb : Below w.heap.size w w') (hk : k < w.heap.size) : Safe B0 w' k := by
  rcases hs with h | ⟨cs, T, fr, h1, h2⟩
  · exact .inl h
  exact .inr ⟨cs, T, fr, (hb.block k hk).trans h1, h2⟩
theorem C.upd {b o : Nat} {v : Value} (h : C w b o v) (hs : Safe B0 w b) (hd : DraftAt B0 w db sb L) (hu : Upd db w w') : C w' b o v :=
  (World.cell?_of_block (w := w) (w' := w') (a := ⟨b, o, none⟩) (hu.same b h.lt (hd.safe hs))).trans h
theorem RdS.rd {k : Nat} {A : Option Addr} {n : Nat} {xs : List Value} (h : RdS B0 w k A n xs) : Rd w k A n xs := h.1
theorem RdS.nil (B0 : Nat) (w : World) (k : Nat) (A : Option Addr) : RdS B0 w k A 0 [] := ⟨Rd.nil w k A, .inl rfl⟩
theorem RdS.upd {k : Nat} {A : Option Addr} {n : Nat} {xs : List Value} (h : RdS B0 w k A n xs) (hd : DraftAt B0 w db sb L) (hu : Upd db w w') : RdS B0 w' k A n xs := by
  rcases h.2 with h0 | ⟨b, o, hA, hlt, hs⟩
  · refine ⟨⟨h.1.1, .inl h0⟩, .inl h0⟩
  have hbl := hu.same b hlt (hd.safe hs)
  refine ⟨⟨h.1.1, ?_⟩, .inr ⟨b, o, hA, Nat.lt_of_lt_of_le hlt hu.size, hs.upd hd hu hlt⟩⟩
  rcases h.1.2 with h0 | ⟨b', o', hA', hc⟩
  · exact .inl h0
  rw [hA] at hA'
  injection hA' with hA'
  injection hA' with h1 h2 _
  subst h1 h2
  exact .inr ⟨b, o, hA, fun j hj => (World.cell?_of_block (w := w) (w' := w') (a := ⟨b, o + j, none⟩) hbl).trans (hc j hj)⟩
theorem RdS.below {k : Nat} {A : Option Addr} {n : Nat} {xs : List Value} (h : RdS B0 w k A n xs) (hb : Below w.heap.size w w') : RdS B0 w' k A n xs := by
  refine ⟨h.1.below hb, ?_⟩
  rcases h.2 with h0 | ⟨b, o, hA, hlt, hs⟩
  · exact .inl h0
  exact .inr ⟨b, o, hA, Nat.lt_of_lt_of_le hlt hb.size, hs.below hb hlt⟩
theorem RdS.alloc {k : Nat} {A : Option Addr} {n : Nat} {xs : List Value} (h : RdS B0 w k A n xs) (o : Obj) : RdS B0 (w.alloc o) k A n xs := h.below ((Below.refl _ _).alloc (Nat.le_refl _) o)
theorem RdS.of_own {base e k n c : Nat} {A : Option Addr} {xs : List Value} (h : w.ownsRow base e k (.slice A n c) n xs) (h1 : okT e = true) (h2 : e ≠ 155) : RdS B0 w k A n xs := by
  refine ⟨Rd.of_own h, ?_⟩
  rcases h.2 with ⟨_, h0⟩ | ⟨g, cap, cur, hv, hb, hh, _⟩
  · exact .inl h0
  exact .inr ⟨g, 0, by injection hv, (Array.getElem?_eq_some_iff.1 hh).1, .inr ⟨_, _, _, hh, h1, h2⟩⟩
theorem ChgAt.upd {c : Chg} {xs : List Value} (h : ChgAt B0 w c xs) (hd : DraftAt B0 w db sb L) (hu : Upd db w w') : ChgAt B0 w' c xs := by
  obtain ⟨A, n, c1, B, m, d, hx, h1, h2⟩ := h
  exact ⟨A, n, c1, B, m, d, hx, h1.upd hd hu, h2.upd hd hu⟩
theorem ChgAt.below {c : Chg} {xs : List Value} (h : ChgAt B0 w c xs) (hb : Below w.heap.size w w') : ChgAt B0 w' c xs := by
  obtain ⟨A, n, c1, B, m, d, hx, h1, h2⟩ := h
  exact ⟨A, n, c1, B, m, d, hx, h1.below hb, h2.below hb⟩
theorem DraftAt.below (h : DraftAt B0 w db sb L) (hb : Below w.heap.size w w') : DraftAt B0 w' db sb L := by
  have hlt := h.lt
  obtain ⟨A, c, xs, hd, hB, hown, hE, hs⟩ := h
  refine ⟨A, c, xs, (hb.block db hlt).trans hd, hB, ?_, hE.mono fun x v _ hx => hx.below hb, hs.below hb⟩
  exact hown.kept (row := none) ⟨hb.os, hb.tape, hb.output, hb.size, fun k hk _ => hb.block k hk⟩ (by cases (Value.slice A L.length c).ownBlock <;> simp)
end
def lastC (L : List Chg) (sp : Int) (key : List UInt8) : Option Chg := L.reverse.find? fun c => decide (c.sp = sp) && decide (c.key = key)
theorem cells_of_blk {w : World} {g : Nat} {cs : Array Value} {t : TypeId} (h : w.heap[g]? = some (.cells cs t (0, 0))) (i : Nat) {v : Value} (hv : cs[i]? = some v) : C w g i v := by
  rw [C, cell_of_row w g i cs t (0, 0) h, hv]
def LastPost (B0 : Nat) (w : World) (r : Option Chg) (e : Ending) (w' : World) : Prop := (match r with
      | some x => ∃ xs, e = .returned (.tuple #[.agg xs.toArray, .bool true]) ∧ ChgAt B0 w x xs
      | none => e = .returned (.tuple #[.agg #[.int .i64 0, .slice none 0 0, .slice none 0 0, .bool false], .bool false])) ∧ Below w.heap.size w w'
theorem lastC_some {L : List Chg} {sp : Int} {key : List UInt8} (j : Nat) (hj : j < L.length) (h : L[j].sp = sp ∧ L[j].key = key) (hn : ∀ i (hi : i < L.length), j < i → ¬ (L[i].sp = sp ∧ L[i].key = key)) : lastC L sp key = some L[j] := by
  have hsplit : L = L.take j ++ L[j] :: L.drop (j + 1) := by simp
  have hd : (L.drop (j + 1)).reverse.find? (fun c => decide (c.sp = sp) && decide (c.key = key)) = none := by
    rw [List.find?_eq_none]
    intro x hx
    rw [List.mem_reverse] at hx
    obtain ⟨i, hi, rfl⟩ := List.getElem_of_mem hx
    rw [List.getElem_drop]
    have := hn (j + 1 + i) (by simp at hi; omega) (by omega)
    simpa using this
  unfold lastC
  generalize L[j] = x at *
  rw [hsplit]
  simp only [List.reverse_append, List.reverse_cons, List.append_assoc, List.find?_append, hd, List.singleton_append, Option.none_or]
  rw [List.find?_cons_of_pos]
  simp [h]
theorem lastC_none {L : List Chg} {sp : Int} {key : List UInt8} (hn : ∀ i (hi : i < L.length), ¬ (L[i].sp = sp ∧ L[i].key = key)) : lastC L sp key = none := by
  unfold lastC
  rw [List.find?_eq_none]
  intro x hx
  rw [List.mem_reverse] at hx
  obtain ⟨i, hi, rfl⟩ := List.getElem_of_mem hx
  simpa using hn i hi
set_option maxHeartbeats 800000 in
set_option maxRecDepth 100000 in
theorem last_any (B0 db sb : Nat) (L : List Chg) (sp : Int) (A : Option Addr) (n c : Nat) (key : List UInt8) (w : World) (hd : DraftAt B0 w db sb L) (hk : RB w A n key) :
    Calls Tryz.prog 172 #[.pointer (some ⟨db, 0, none⟩), .int .i64 sp, .slice A n c] w (LastPost B0 w (lastC L sp key)) := by
  obtain ⟨A1, c1, xs, hd0, hB, hown, hE, hs⟩ := hd
  have g1 := cells_of_blk hd0 1 (v := .slice A1 L.length c1) rfl
  have hlen : L.length ≤ 9223372036854775807 := by
    obtain ⟨_, _, hv, h1, h2, _⟩ := own_form hown
    simp only [maxLen] at h2
    injection hv with _ _ hv
    omega
  have g1' := g1.alloc (.cells #[.int .i64 0, .slice none 0 0, .slice none 0 0, .bool false] 155)
  have hR := Rd.of_own hown
  have hk' := hk.alloc (.cells #[.int .i64 0, .slice none 0 0, .slice none 0 0, .bool false] 155)
  have n0 := fun i v h => C.new w #[.int .i64 0, .slice none 0 0, .slice none 0 0, .bool false] 155 i (v := v) h
  clear hown hd0 g1
  obtain ⟨r, hr⟩ : ∃ r, lastC L sp key = r := ⟨_, rfl⟩
  rw [hr]
  have Hr := hide hr
  clear hr
  go_enter Tryz.func172, Tryz.ntmps172
  go_wp2_with fail
  go_loop [8] (fun i => ∃ m : Int, -1 ≤ m ∧ m < L.length ∧ i = .int .i64 m ∧ Hid (∀ j (hj : j < L.length), m < j → ¬ (L[j].sp = sp ∧ L[j].key = key))) (fun i => (intOf i + 1).toNat)
  case atStart => exact ⟨_, by omega, by omega, rfl, hide fun j hj h => by omega⟩
  case round =>
    obtain ⟨m, hm1, hm2, rfl, hno⟩ := hrel
    by_cases hm0 : 0 ≤ m
    rotate_left
    · go_wp2
      have hres := lastC_none (L := L) (sp := sp) (key := key) (fun i hi h => unhide hno i hi (by omega) h)
      refine bodyPost_ret (v := .tuple #[.agg #[.int .i64 0, .slice none 0 0, .slice none 0 0, .bool false], .bool false]) (by simp [results, Tryz.results172, go_sem]) rfl ?_
      rw [← Hr.out, hres]
      exact ⟨rfl, (Below.refl _ _).alloc (Nat.le_refl _) _⟩
    obtain ⟨j, rfl⟩ := Int.eq_ofNat_of_zero_le hm0
    have hj : j < L.length := by omega
    obtain ⟨v, hv4, hP, hcell⟩ := hE.at_ j hj
    obtain ⟨KA, kn, kc, VA, vn, vc, rfl, hk1, hv1⟩ := hP
    obtain ⟨b, o, rfl, hcs⟩ := hR.some_ (by omega)
    have hxl := hR.1
    have e0 : C w b (o + j * 4) (.int .i64 L[j].sp) := by have := (hcs (j * 4 + 0) (by omega)).trans (hcell 0 (by omega)); simpa using this
    have e1 : C w b (o + j * 4 + 1) (.slice KA kn kc) := by have := (hcs (j * 4 + 1) (by omega)).trans (hcell 1 (by omega)); simpa [Nat.add_assoc] using this
    have e2 : C w b (o + j * 4 + 2) (.slice VA vn vc) := by have := (hcs (j * 4 + 2) (by omega)).trans (hcell 2 (by omega)); simpa [Nat.add_assoc] using this
    have e3 : C w b (o + j * 4 + 3) (.bool L[j].gone) := by have := (hcs (j * 4 + 3) (by omega)).trans (hcell 3 (by omega)); simpa [Nat.add_assoc] using this
    have e0' := e0.alloc (.cells #[.int .i64 0, .slice none 0 0, .slice none 0 0, .bool false] 155)
    have e1' := e1.alloc (.cells #[.int .i64 0, .slice none 0 0, .slice none 0 0, .bool false] 155)
    have e2' := e2.alloc (.cells #[.int .i64 0, .slice none 0 0, .slice none 0 0, .bool false] 155)
    have e3' := e3.alloc (.cells #[.int .i64 0, .slice none 0 0, .slice none 0 0, .bool false] 155)
    have hk1' := hk1.rd.alloc (.cells #[.int .i64 0, .slice none 0 0, .slice none 0 0, .bool false] 155)
    clear e0 e1 e2 e3 hcs hcell hE
    by_cases hsp : L[j].sp = sp
    · by_cases hke : L[j].key = key
      · have t1 : (L[j].sp == sp) = true := by simp [hsp]
        have t2 : decide (L[j].key = key) = true := by simp [hke]
        clear hsp hke
        go_wp2_with (go_at_call 94; refine (beq_any _ _ _ _ _ _ _ _ _ hk1' hk').mono ?_; rintro e w' ⟨rfl, rfl⟩)
        have hres := lastC_some (sp := sp) (key := key) j hj ⟨by simpa using t1, by simpa using t2⟩ (fun i hi h => unhide hno i hi (by omega))
        refine bodyPost_ret (v := .tuple #[.agg #[.int .i64 L[j].sp, .slice KA kn kc, .slice VA vn vc, .bool L[j].gone], .bool true]) (by simp [results, Tryz.results172, go_sem]) rfl ?_
        rw [← Hr.out, hres]
        exact ⟨⟨_, rfl, ⟨KA, kn, kc, VA, vn, vc, rfl, hk1, hv1⟩⟩, (Below.refl _ _).alloc (Nat.le_refl _) _⟩
      have t1 : (L[j].sp == sp) = true := by simp [hsp]
      have t2 : decide (L[j].key = key) = false := by simp [hke]
      have hno2 := hide (fun (h : L[j].sp = sp ∧ L[j].key = key) => hke h.2)
      clear hsp hke
      go_wp2_with (go_at_call 94; refine (beq_any _ _ _ _ _ _ _ _ _ hk1' hk').mono ?_; rintro e w' ⟨rfl, rfl⟩)
      go_round
      case rel => exact ⟨(j : Int) - 1, by omega, by omega, rfl, hide fun i hi h => by
        by_cases hij : i = j
        · subst hij; exact unhide hno2
        exact unhide hno i hi (by omega)⟩
      case measure => simp [intOf]
    have t1 : (L[j].sp == sp) = false := by simp [hsp]
    have hno2 := hide (fun (h : L[j].sp = sp ∧ L[j].key = key) => hsp h.1)
    clear hsp
    go_wp2_with (go_at_call 94; refine (beq_any _ _ _ _ _ _ _ _ _ hk1' hk').mono ?_; rintro e w' ⟨rfl, rfl⟩)
    go_round
    case rel => exact ⟨(j : Int) - 1, by omega, by omega, rfl, hide fun i hi h => by
        by_cases hij : i = j
        · subst hij; exact unhide hno2
        exact unhide hno i hi (by omega)⟩
    case measure => simp [intOf]
theorem bclone2 (A : Option Addr) (n c : Nat) (xs : List UInt8) (w : World) (hx : RB w A n xs) (hn : n ≤ 1000000000) :
    Calls Tryz.prog 70 #[.slice A n c] w fun e w' => ∃ A' c', e = .returned (.slice A' n c') ∧ w'.ownsRow w.heap.size 5 1 (.slice A' n c') n (bys xs) ∧ Below w.heap.size w w' :=
  (bclone_any A n c xs w hx hn).mono fun e w' ⟨v, he, ho, hb⟩ => by
    obtain ⟨A', c', rfl, _⟩ := own_form ho
    exact ⟨A', c', he, ho, hb⟩
def PutPost (B0 db sb : Nat) (w : World) (L : List Chg) (e : Ending) (w' : World) : Prop := e = .returned (.int .i64 0) ∧ DraftAt B0 w' db sb L ∧ Upd db w w'
section
variable {B0 : Nat} {U U' : World}
theorem ChgAt.move {c : Chg} {xs : List Value} (h : ChgAt B0 U c xs) (hs : U.heap.size ≤ U'.heap.size) (hm : ∀ b, b < U.heap.size → Safe B0 U b → U'.heap[b]? = U.heap[b]?) : ChgAt B0 U' c xs := by
  obtain ⟨A, n, c1, B, m, d, hx, h1, h2⟩ := h
  exact ⟨A, n, c1, B, m, d, hx, h1.move hs hm, h2.move hs hm⟩
end
theorem own_block_cases {w : World} {base e k n : Nat} {v : Value} {xs : List Value} (h : w.ownsRow base e k v n xs) {b : Nat} (hb : v.ownBlock = some b) : base ≤ b ∧ ∃ cs, w.heap[b]? = some (.cells cs e (0, 0)) := by
  rcases h.2 with ⟨rfl, _⟩ | ⟨g, cap, cur, rfl, hg, hh, _⟩
  · cases hb
  have : g = b := by simpa [Value.ownBlock] using hb
  subst this
  exact ⟨hg, _, hh⟩
theorem snoc_done (B0 db sb : Nat) (w W w5 : World) (L : List Chg) (A1 A5 : Option Addr) (c1 c5 : Nat) (xs v : List Value) (x : Chg)
    (hd0 : w.heap[db]? = some (.cells #[.pointer (some ⟨sb, 0, none⟩), .slice A1 L.length c1] 136 (0, 0))) (hB : B0 ≤ db) (hown : w.ownsRow B0 155 4 (.slice A1 L.length c1) L.length xs)
    (hE : Els (ChgAt B0 w) 4 L xs) (hs : StoreS B0 w sb)
    (hW : Below w.heap.size w W) (hx : ChgAt B0 W x v) (hv : v.length = 4)
    (hown5 : w5.ownsRow B0 155 4 (.slice A5 (L.length + 1) c5) (L.length + 1) (xs ++ v)) (hg5 : W.grownBy w5 (Value.slice A1 L.length c1).ownBlock)
    (hat5 : (Value.slice A5 (L.length + 1) c5).ownBlock = (Value.slice A1 L.length c1).ownBlock ∨ (Value.slice A5 (L.length + 1) c5).ownBlock = some W.heap.size) :
    PutPost B0 db sb w (L ++ [x]) (.returned (.int .i64 0)) (w5.setCell ⟨db, 1, none⟩ (.slice A5 (L.length + 1) c5)) := by
  have hlt : db < w.heap.size := (Array.getElem?_eq_some_iff.1 hd0).1
  have hWd : W.heap[db]? = some (.cells #[.pointer (some ⟨sb, 0, none⟩), .slice A1 L.length c1] 136 (0, 0)) := (hW.block db hlt).trans hd0
  have hownW := own_below hown hW
  have hne : some db ≠ (Value.slice A1 L.length c1).ownBlock := fun he => by
    obtain ⟨_, cs, hc⟩ := own_block_cases hown he.symm
    rw [hd0] at hc
    injection hc with hc
    injection hc with _ h1 _
    cases h1
  have hltW : db < W.heap.size := Nat.lt_of_lt_of_le hlt hW.size
  have h5d : w5.heap[db]? = some (.cells #[.pointer (some ⟨sb, 0, none⟩), .slice A1 L.length c1] 136 (0, 0)) := (hg5.block db hltW hne).trans hWd
  have h6 : ∀ b, b ≠ db → (w5.setCell ⟨db, 1, none⟩ (.slice A5 (L.length + 1) c5)).heap[b]? = w5.heap[b]? := fun b hb => Below.heap_setCell w5 ⟨db, 1, none⟩ _ b hb
  have h6s : (w5.setCell ⟨db, 1, none⟩ (.slice A5 (L.length + 1) c5)).heap.size = w5.heap.size := by simp [World.setCell]
  have hsafe : ∀ b, b < W.heap.size → Safe B0 W b → (w5.setCell ⟨db, 1, none⟩ (.slice A5 (L.length + 1) c5)).heap[b]? = W.heap[b]? := by
    intro b hb hsf
    have hbd : b ≠ db := by
      rintro rfl
      rcases hsf with h | ⟨cs, T, fr, h1, h2, h3⟩
      · omega
      rw [hWd] at h1
      injection h1 with h1
      injection h1 with _ h1 _
      rw [← h1] at h2
      exact absurd h2 (by decide)
    rw [h6 b hbd]
    refine hg5.block b hb fun he => ?_
    obtain ⟨hb0, cs, hc⟩ := own_block_cases hownW he.symm
    rcases hsf with h | ⟨cs', T, fr, h1, h2, h3⟩
    · omega
    rw [hc] at h1
    injection h1 with h1
    injection h1 with _ h1 _
    exact h3 h1.symm
  have hsz : W.heap.size ≤ (w5.setCell ⟨db, 1, none⟩ (.slice A5 (L.length + 1) c5)).heap.size := by rw [h6s]; exact hg5.size
  have hE6 : Els (ChgAt B0 (w5.setCell ⟨db, 1, none⟩ (.slice A5 (L.length + 1) c5))) 4 (L ++ [x]) (xs ++ v) :=
    ((hE.mono fun y u _ hy => (hy.below hW).move hsz hsafe)).snoc hv (hx.move hsz hsafe)
  have hd6 : (w5.setCell ⟨db, 1, none⟩ (.slice A5 (L.length + 1) c5)).heap[db]? = some (.cells #[.pointer (some ⟨sb, 0, none⟩), .slice A5 (L.length + 1) c5] 136 (0, 0)) := by
    simp [World.setCell, Array.getElem?_modify, h5d]
  have hne5 : (Value.slice A5 (L.length + 1) c5).ownBlock ≠ some db := fun he => by
    obtain ⟨_, cs, hc⟩ := own_block_cases hown5 he
    rw [h5d] at hc
    injection hc with hc
    injection hc with _ h1 _
    cases h1
  have hown6 : (w5.setCell ⟨db, 1, none⟩ (.slice A5 (L.length + 1) c5)).ownsRow B0 155 4 (.slice A5 (L.length + 1) c5) (L.length + 1) (xs ++ v) :=
    hown5.kept (row := some db) ⟨rfl, rfl, rfl, by rw [h6s]; exact Nat.le_refl _, fun k _ hk => h6 k (fun e => hk (by rw [e]))⟩ (.inr hne5)
  refine ⟨rfl, ⟨A5, c5, xs ++ v, by simpa using hd6, hB, by simpa using hown6, hE6, (hs.below hW).move hsafe⟩, ?_⟩
  refine ⟨hg5.os.trans hW.os, hg5.tape.trans hW.tape, hg5.output.trans hW.output, Nat.le_trans hW.size hsz, fun k hk hf => ?_, fun k hk => ?_⟩
  · have h1 : k ≠ db := fun e => hf (.inl e)
    rw [h6 k h1]
    refine (hg5.block k (Nat.lt_of_lt_of_le hk hW.size) fun he => hf (.inr ⟨_, _, _, _, hd0, he.symm⟩)).trans (hW.block k hk)
  rcases hk with rfl | ⟨s, u, t, fr, hu, hb⟩
  · exact .inl (.inl rfl)
  rw [hd6] at hu
  injection hu with hu
  injection hu with hu _ _
  have hu2 : Value.slice A5 (L.length + 1) c5 = u := by
    have := congrArg (fun a => a[1]?) hu
    simpa using this
  subst hu2
  rcases hat5 with h | h
  · rw [h] at hb
    exact .inl (.inr ⟨_, _, _, _, hd0, hb⟩)
  rw [h] at hb
  injection hb with hb
  subst hb
  exact .inr hW.size
def getC (L : List Chg) (sp : Int) (key : List UInt8) : Option (List UInt8) :=
  match lastC L sp key with
  | some c => if c.gone then none else some c.val
  | none => none
theorem getC_of {L : List Chg} {sp : Int} {key : List UInt8} {x : Chg} (h : lastC L sp key = some x) : getC L sp key = if x.gone then none else some x.val := by rw [getC, h]
theorem getC_isSome {L : List Chg} {sp : Int} {key : List UInt8} {x : Chg} (h : lastC L sp key = some x) : (getC L sp key).isSome = !x.gone := by
  rw [getC_of h]
  cases x.gone <;> simp
theorem lastC_snoc (L : List Chg) (c : Chg) (sp : Int) (key : List UInt8) : lastC (L ++ [c]) sp key = if c.sp = sp ∧ c.key = key then some c else lastC L sp key := by
  unfold lastC
  rw [List.reverse_append, List.reverse_singleton, List.singleton_append, List.find?_cons]
  by_cases h1 : c.sp = sp <;> by_cases h2 : c.key = key <;> simp [h1, h2]
theorem getC_snoc (L : List Chg) (c : Chg) (sp : Int) (key : List UInt8) : getC (L ++ [c]) sp key = if c.sp = sp ∧ c.key = key then (if c.gone then none else some c.val) else getC L sp key := by
  unfold getC
  rw [lastC_snoc]
  by_cases h : c.sp = sp ∧ c.key = key <;> simp [h]
theorem getC_other (L : List Chg) : ∀ (M : List Chg) (sp : Int) (key : List UInt8), (∀ c ∈ M, ¬ (c.sp = sp ∧ c.key = key)) → getC (L ++ M) sp key = getC L sp key := by
  intro M
  induction M generalizing L with
  | nil => intro sp key _; simp
  | cons c M ih =>
    intro sp key h
    rw [show L ++ c :: M = (L ++ [c]) ++ M by simp, ih (L ++ [c]) sp key (fun d hd => h d (by simp [hd])), getC_snoc, if_neg (h c (by simp))]
theorem getC_nil (sp : Int) (key : List UInt8) : getC [] sp key = none := rfl
instance : DecidableEq V := fun a b => decidable_of_iff (a.k = b.k ∧ a.n = b.n ∧ a.s = b.s) ⟨fun h => V.ext_ h.1 h.2.1 h.2.2, fun h => by rw [h]; exact ⟨rfl, rfl, rfl⟩⟩
structure Tb where
  s : Sch
  rows : List (List V)
def nothing : V := ⟨0, 0, ⟨#[]⟩⟩
def col (r : List V) (i : Nat) : V := r.getD i nothing
def rowK (id : Nat) (v : V) : List UInt8 := UInt8.ofNat id :: keyV v
def entK (id : Nat) (x : Ix) (r : List V) : List UInt8 := UInt8.ofNat id :: UInt8.ofNat x.col.toNat :: (keyV (col r x.col.toNat) ++ keyV (col r 0))
structure Rep (L : List Chg) (D : List Tb) : Prop where
  t : ∀ k v, getC L 0 k = some v ↔ ∃ i T, D[i]? = some T ∧ k = T.s.name.data.toList ∧ v = UInt8.ofNat i :: encS T.s
  r : ∀ k v, getC L 1 k = some v ↔ ∃ i T, D[i]? = some T ∧ ∃ r ∈ T.rows, k = rowK i (col r 0) ∧ v = keyL r
  e : ∀ k v, getC L 2 k = some v ↔ ∃ i T, D[i]? = some T ∧ ∃ r ∈ T.rows, ∃ x ∈ T.s.ixs, k = entK i x r ∧ v = []
def cntD (D : List Tb) (i : Nat) : Nat := match D[i]? with | some T => T.rows.length | none => 0
def RepN (L : List Chg) (D : List Tb) : Prop := ∀ i, i < 5 → (getC L 3 [UInt8.ofNat i] = none ∧ cntD D i = 0) ∨ getC L 3 [UInt8.ofNat i] = some [UInt8.ofNat (cntD D i)]
structure RowOf (s : Sch) (r : List V) : Prop where
  fit : fitsB s r = true
  wf : ∀ v ∈ r, wf64 v.n
structure Ok (D : List Tb) : Prop where
  n4 : D.length ≤ 4
  right : ∀ (i : Nat) T, D[i]? = some T → rightS T.s = true
  names : ∀ (i j : Nat) T U, D[i]? = some T → D[j]? = some U → T.s.name = U.s.name → i = j
  fit : ∀ (i : Nat) T, D[i]? = some T → ∀ r ∈ T.rows, RowOf T.s r
  keys : ∀ (i : Nat) T, D[i]? = some T → T.rows.Pairwise fun a b => col a 0 ≠ col b 0
  n64 : ∀ (i : Nat) T, D[i]? = some T → T.rows.length ≤ 64
theorem nRunes_le {s : ByteArray} (h : Lib.validD s.data.toList = true) {m : Int} (hm : nRunes s ≤ m) : ((runesL s.data.toList).length : Int) ≤ m := by
  rw [nRunes, if_pos h] at hm; exact hm
theorem encodeRune_len (r : Int) : (Lib.encodeRune r).length ≤ 4 := by
  unfold Lib.encodeRune Lib.encodeRuneZ
  rw [List.length_map]
  repeat (first | split | simp)
theorem flat_le {α : Type} (f : α → List UInt8) (k : Nat) (hf : ∀ x, (f x).length ≤ k) (l : List α) : (l.flatMap f).length ≤ k * l.length := by
  induction l with
  | nil => simp
  | cons x l ih =>
    have := hf x
    simp only [List.flatMap_cons, List.length_append, List.length_cons, Nat.mul_add, Nat.mul_one]
    omega
theorem text_size {s : ByteArray} (h : Lib.validD s.data.toList = true) : s.size ≤ 4 * (runesL s.data.toList).length := by
  have := runes_back _ _ (Nat.le_refl _) h
  rw [size_len]
  conv => lhs; rw [← this]
  exact flat_le _ 4 (fun x => encodeRune_len _) _
theorem keyV_len {v : V} (h : rightV v = 0) (h8 : v.k = 2 → nRunes v.s ≤ 8) : (keyV v).length ≤ 28 := by
  rcases right_kinds h with ⟨h0, _⟩ | ⟨h0, _⟩ | ⟨h0, h1, h2⟩ | ⟨h0, _⟩
  · simp [keyV, h0]
  · simp [keyV, h0, eightB_be, be_len]
  · have := nRunes_le h2 (h8 h0)
    simp only [keyV, h0, runesB_g3]
    simp [g3_len]; omega
  simp [keyV, h0]
theorem okV_of {v : V} (h : rightV v = 0) (h8 : v.k = 2 → nRunes v.s ≤ 8) (hw : wf64 v.n) : okV v := by
  refine ⟨h, hw, ?_⟩
  rcases right_kinds h with ⟨h0, _, h2⟩ | ⟨h0, h2⟩ | ⟨h0, h1, h2⟩ | ⟨h0, _, h2⟩
  · rw [size_len, h2]; simp
  · rw [size_len, h2]; simp
  · have := nRunes_le h2 (h8 h0)
    have := text_size h2
    omega
  rw [size_len, h2]; simp
theorem goFits_all : ∀ (i : Nat) (r : List V) (cs : List Col), (∀ c ∈ cs, colB c = true) → goFits i r cs = true → ∀ v ∈ r, rightV v = 0 ∧ (v.k = 2 → nRunes v.s ≤ 8)
  | _, [], _, _, _, v, hv => by simp at hv
  | i, u :: r, [], _, h, v, hv => by simp [goFits] at h
  | i, u :: r, c :: cs, hc, h, v, hv => by
    simp only [goFits, Bool.and_eq_true] at h
    rcases List.mem_cons.1 hv with rfl | hv
    · have h1 := h.1
      simp only [fitV, Bool.and_eq_true, decide_eq_true_eq, Bool.not_eq_true', Bool.and_eq_false_iff, decide_eq_false_iff_not] at h1
      refine ⟨h1.1, fun hk => ?_⟩
      have := (colB_facts (hc c (by simp))).2.2.2.2
      rcases h1.2.2.2 with h2 | h2
      · simp [hk] at h2
      omega
    exact goFits_all (i + 1) r cs (fun c h => hc c (by simp [h])) h.2 v hv
theorem fits_len {s : Sch} {r : List V} (h : fitsB s r = true) : r.length = s.cols.length := by
  simp only [fitsB, Bool.and_eq_true, decide_eq_true_eq] at h; exact h.1
theorem fits_val {s : Sch} (hs : rightS s = true) {r : List V} (h : fitsB s r = true) : ∀ v ∈ r, rightV v = 0 ∧ (v.k = 2 → nRunes v.s ≤ 8) := by
  simp only [fitsB, Bool.and_eq_true, decide_eq_true_eq] at h
  exact goFits_all 0 r s.cols (right_facts hs).cs h.2
theorem RowOf.ok {s : Sch} (hs : rightS s = true) {r : List V} (h : RowOf s r) : ∀ v ∈ r, okV v := fun v hv => okV_of (fits_val hs h.fit v hv).1 (fits_val hs h.fit v hv).2 (h.wf v hv)
theorem RowOf.row {s : Sch} (hs : rightS s = true) {r : List V} (h : RowOf s r) : rowOk r := ⟨by rw [fits_len h.fit]; exact (right_facts hs).c3, fun v hv => ⟨h.ok hs v hv, (fits_val hs h.fit v hv).2⟩⟩
theorem RowOf.pos {s : Sch} (hs : rightS s = true) {r : List V} (h : RowOf s r) : 0 < r.length := by rw [fits_len h.fit]; exact (right_facts hs).c1
theorem okV_nothing : okV nothing := ⟨by decide, ⟨by decide, by decide⟩, by decide⟩
theorem col_in {r : List V} {i : Nat} (h : i < r.length) : col r i ∈ r := by
  rw [col, List.getD_eq_getElem?_getD, List.getElem?_eq_getElem h]; exact List.getElem_mem h
theorem RowOf.col {s : Sch} (hs : rightS s = true) {r : List V} (h : RowOf s r) (i : Nat) : okV (col r i) ∧ (keyV (col r i)).length ≤ 28 := by
  by_cases hi : i < r.length
  · have hm := col_in hi
    exact ⟨h.ok hs _ hm, keyV_len (fits_val hs h.fit _ hm).1 (fits_val hs h.fit _ hm).2⟩
  have : YtekokogmnhlchaaGreatDoor.col r i = nothing := by rw [YtekokogmnhlchaaGreatDoor.col, List.getD_eq_getElem?_getD, List.getElem?_eq_none (by omega)]; rfl
  rw [this]
  exact ⟨okV_nothing, by decide⟩
theorem RowOf.first {s : Sch} (hs : rightS s = true) {r : List V} (h : RowOf s r) : (YtekokogmnhlchaaGreatDoor.col r 0).k ≠ 0 := by
  have hp := h.pos hs
  have hc := fits_len h.fit
  have hf := h.fit
  simp only [fitsB, Bool.and_eq_true] at hf
  cases r with
  | nil => simp at hp
  | cons v r =>
    cases hcs : s.cols with
    | nil => rw [hcs] at hc; simp at hc
    | cons c cs =>
      have h2 := hf.2
      rw [hcs] at h2
      simp only [goFits, fitV, Bool.and_eq_true] at h2
      have := h2.1.2.1
      simp [YtekokogmnhlchaaGreatDoor.col] at this ⊢
      exact this
theorem u8_id {i j : Nat} (hi : i < 256) (hj : j < 256) (h : UInt8.ofNat i = UInt8.ofNat j) : i = j := by
  have := congrArg UInt8.toNat h
  rw [u8n, u8n] at this
  omega
theorem rowK_inj {i j : Nat} {u v : V} (hi : i < 256) (hj : j < 256) (hu : okV u) (hv : okV v) (h : rowK i u = rowK j v) : i = j ∧ u = v := by
  injection h with h1 h2
  exact ⟨u8_id hi hj h1, keyV_inj hu hv h2⟩
theorem entK_inj {i j : Nat} {x y : Ix} {r q : List V} (hi : i < 256) (hj : j < 256) (hx : 0 ≤ x.col ∧ x.col < 256) (hy : 0 ≤ y.col ∧ y.col < 256)
    (hr : ∀ k, okV (col r k)) (hq : ∀ k, okV (col q k)) (h : entK i x r = entK j y q) : i = j ∧ x.col = y.col ∧ col r x.col.toNat = col q y.col.toNat ∧ col r 0 = col q 0 := by
  injection h with h1 h2
  injection h2 with h2 h3
  have e1 := u8_id hi hj h1
  have e2 := u8_id (by omega) (by omega) h2
  have e3 := keyV_free (hr _) (hq _) h3
  exact ⟨e1, by omega, e3.1, keyV_inj (hr 0) (hq 0) e3.2⟩
end Go.Proofs.YtekokogmnhlchaaGreatDoor
namespace Go.Proofs.YtekokogmnhlchaaGreatDoor
open Go.RowKit
def layIx (id : Nat) (row was : Option (List V)) (x : Ix) : List Chg :=
  (was.map fun r => (⟨2, entK id x r, [], true⟩ : Chg)).toList ++ (row.map fun r => (⟨2, entK id x r, [], false⟩ : Chg)).toList
def layRow (id : Nat) (v0 : V) (row : Option (List V)) : Chg := match row with
  | some r => ⟨1, rowK id v0, keyL r, false⟩
  | none => ⟨1, rowK id v0, [], true⟩
def layC (id : Nat) (xs : List Ix) (v0 : V) (row was : Option (List V)) : List Chg := xs.flatMap (layIx id row was) ++ [layRow id v0 row]
theorem layIx_sp (id : Nat) (row was : Option (List V)) (x : Ix) : ∀ c ∈ layIx id row was x, c.sp = 2 := by
  intro c hc
  simp only [layIx, List.mem_append, Option.mem_toList, Option.map_eq_some_iff] at hc
  rcases hc with ⟨r, _, rfl⟩ | ⟨r, _, rfl⟩ <;> rfl
theorem layIxs_sp (id : Nat) (row was : Option (List V)) (xs : List Ix) : ∀ c ∈ xs.flatMap (layIx id row was), c.sp = 2 := by
  intro c hc
  obtain ⟨x, _, hx⟩ := List.mem_flatMap.1 hc
  exact layIx_sp id row was x c hx
theorem layIx_get (L : List Chg) (id : Nat) (row was : Option (List V)) (x : Ix) (k : List UInt8) :
    getC (L ++ layIx id row was x) 2 k = if (∃ r, row = some r ∧ k = entK id x r) then some [] else if (∃ r, was = some r ∧ k = entK id x r) then none else getC L 2 k := by
  cases was with
  | none =>
    cases row with
    | none => simp [layIx]
    | some r =>
      simp only [layIx, Option.map_none, Option.toList_none, Option.map_some, Option.toList_some, List.nil_append, getC_snoc, true_and, if_false, Bool.false_eq_true]
      by_cases h : entK id x r = k
      · subst h; simp
      have h' : ¬ k = entK id x r := fun e => h e.symm
      simp [h, h']
  | some u =>
    cases row with
    | none =>
      simp only [layIx, Option.map_none, Option.toList_none, Option.map_some, Option.toList_some, List.append_nil, getC_snoc, true_and, if_true]
      by_cases h : entK id x u = k
      · subst h; simp
      have h' : ¬ k = entK id x u := fun e => h e.symm
      simp [h, h']
    | some r =>
      simp only [layIx, Option.map_some, Option.toList_some]
      rw [show L ++ ([(⟨2, entK id x u, [], true⟩ : Chg)] ++ [⟨2, entK id x r, [], false⟩]) = (L ++ [⟨2, entK id x u, [], true⟩]) ++ [⟨2, entK id x r, [], false⟩] by simp]
      simp only [getC_snoc, true_and, if_true, if_false, Bool.false_eq_true]
      by_cases h : entK id x r = k
      · subst h; simp
      have h' : ¬ k = entK id x r := fun e => h e.symm
      by_cases h2 : entK id x u = k
      · subst h2; simp [h, h']
      have h2' : ¬ k = entK id x u := fun e => h2 e.symm
      simp [h, h', h2, h2']
open Classical in
theorem layIxs_get (id : Nat) (hid : id < 256) (row was : Option (List V)) (hrow : ∀ r, row = some r → ∀ k, okV (col r k)) (hwas : ∀ r, was = some r → ∀ k, okV (col r k)) :
    ∀ (xs : List Ix) (L : List Chg) (k : List UInt8), (∀ x ∈ xs, 0 ≤ x.col ∧ x.col < 256) → xs.Pairwise (fun a b => a.col ≠ b.col) →
    getC (L ++ xs.flatMap (layIx id row was)) 2 k = if (∃ r, row = some r ∧ ∃ x ∈ xs, k = entK id x r) then some [] else if (∃ r, was = some r ∧ ∃ x ∈ xs, k = entK id x r) then none else getC L 2 k
  | [], L, k, _, _ => by simp
  | x :: xs, L, k, hc, hp => by
    rw [List.flatMap_cons, ← List.append_assoc, layIxs_get id hid row was hrow hwas xs (L ++ layIx id row was x) k (fun y hy => hc y (by simp [hy])) (List.pairwise_cons.1 hp).2, layIx_get]
    have hx := hc x (by simp)
    have hne := (List.pairwise_cons.1 hp).1
    by_cases h1 : ∃ r, row = some r ∧ ∃ y ∈ xs, k = entK id y r
    · rw [if_pos h1, if_pos]
      obtain ⟨r, hr, y, hy, e⟩ := h1
      exact ⟨r, hr, y, by simp [hy], e⟩
    rw [if_neg h1]
    by_cases h2 : ∃ r, row = some r ∧ k = entK id x r
    · have h3 : ¬ ∃ r, was = some r ∧ ∃ y ∈ xs, k = entK id y r := by
        rintro ⟨u, hu, y, hy, e⟩
        obtain ⟨r, hr, e2⟩ := h2
        have := entK_inj hid hid hx (hc y (by simp [hy])) (hrow r hr) (hwas u hu) (e2.symm.trans e)
        exact hne y hy this.2.1
      rw [if_neg h3, if_pos h2, if_pos]
      obtain ⟨r, hr, e⟩ := h2
      exact ⟨r, hr, x, by simp, e⟩
    rw [if_neg h2]
    have h4 : ¬ ∃ r, row = some r ∧ ∃ y ∈ x :: xs, k = entK id y r := by
      rintro ⟨r, hr, y, hy, e⟩
      rcases List.mem_cons.1 hy with rfl | hy
      · exact h2 ⟨r, hr, e⟩
      exact h1 ⟨r, hr, y, hy, e⟩
    rw [if_neg h4]
    by_cases h5 : ∃ r, was = some r ∧ ∃ y ∈ xs, k = entK id y r
    · rw [if_pos h5, if_pos]
      obtain ⟨r, hr, y, hy, e⟩ := h5
      exact ⟨r, hr, y, by simp [hy], e⟩
    rw [if_neg h5]
    by_cases h6 : ∃ r, was = some r ∧ k = entK id x r
    · rw [if_pos h6, if_pos]
      obtain ⟨r, hr, e⟩ := h6
      exact ⟨r, hr, x, by simp, e⟩
    rw [if_neg h6, if_neg]
    rintro ⟨r, hr, y, hy, e⟩
    rcases List.mem_cons.1 hy with rfl | hy
    · exact h6 ⟨r, hr, e⟩
    exact h5 ⟨r, hr, y, hy, e⟩
def layT (T : Tb) (v0 : V) (row : Option (List V)) : Tb := ⟨T.s, T.rows.filter (fun r => decide (col r 0 ≠ v0)) ++ row.toList⟩
def wasT (T : Tb) (v0 : V) : Option (List V) := T.rows.find? fun r => decide (col r 0 = v0)
theorem wasT_some {T : Tb} {v0 : V} {r : List V} (h : wasT T v0 = some r) : r ∈ T.rows ∧ col r 0 = v0 := by
  have h1 := List.find?_some h
  exact ⟨List.mem_of_find?_eq_some h, by simpa using h1⟩
theorem wasT_none {T : Tb} {v0 : V} (h : wasT T v0 = none) : ∀ r ∈ T.rows, col r 0 ≠ v0 := by
  intro r hr
  simpa using List.find?_eq_none.1 h r hr
theorem layT_mem {T : Tb} {v0 : V} {row : Option (List V)} {r : List V} : r ∈ (layT T v0 row).rows ↔ (r ∈ T.rows ∧ col r 0 ≠ v0) ∨ row = some r := by
  simp only [layT, List.mem_append, List.mem_filter, Option.mem_toList, decide_eq_true_eq, Option.mem_def]
theorem ixs_facts {s : Sch} (h : rightS s = true) : (∀ x ∈ s.ixs, 0 ≤ x.col ∧ x.col < 256) := fun x hx => by
  have h1 := (right_facts h).xs x hx
  have h2 := (right_facts h).c3
  omega
theorem goIxs_pair (n : Nat) : ∀ (pre l : List Ix), goIxs n pre l = true → (∀ x ∈ l, ∀ y ∈ pre, x.col ≠ y.col) ∧ l.Pairwise (fun a b => a.col ≠ b.col)
  | _, [], _ => by simp
  | pre, x :: r, h => by
    simp only [goIxs, Bool.and_eq_true, Bool.not_eq_true', List.any_eq_false] at h
    have ih := goIxs_pair n (pre ++ [x]) r h.2.2.2
    refine ⟨fun z hz y hy => ?_, List.pairwise_cons.2 ⟨fun z hz => fun e => ih.1 z hz x (by simp) e.symm, ih.2⟩⟩
    rcases List.mem_cons.1 hz with rfl | hz
    · have := h.1 y hy
      simpa using this
    exact ih.1 z hz y (by simp [hy])
theorem ixs_pair {s : Sch} (h : rightS s = true) : s.ixs.Pairwise (fun a b => a.col ≠ b.col) := by
  simp only [rightS, Bool.and_eq_true] at h
  exact (goIxs_pair _ _ _ h.2.2).2
theorem set_get {D : List Tb} {i : Nat} {T U : Tb} (hT : D[i]? = some T) (j : Nat) : (D.set i U)[j]? = if j = i then some U else D[j]? := by
  have hi : i < D.length := (List.getElem?_eq_some_iff.1 hT).1
  rw [List.getElem?_set]
  by_cases h : j = i
  · subst h; simp [hi]
  rw [if_neg (fun e => h e.symm), if_neg h]
section
variable {L : List Chg} {D : List Tb} {i : Nat} {T : Tb} {v0 : V} {row : Option (List V)}
theorem Ok.lt4 (ho : Ok D) (hT : D[i]? = some T) : i < 4 := by
  have := (List.getElem?_eq_some_iff.1 hT).1
  have := ho.n4
  omega
theorem Ok.val (ho : Ok D) (hT : D[i]? = some T) {r : List V} (hr : r ∈ T.rows) : ∀ k, okV (col r k) := fun k => ((ho.fit i T hT r hr).col (ho.right i T hT) k).1
theorem Rep.lay (h : Rep L D) (ho : Ok D) (hT : D[i]? = some T) (hv : okV v0) (hrow : ∀ r, row = some r → RowOf T.s r ∧ col r 0 = v0) :
    Rep (L ++ layC i T.s.ixs v0 row (wasT T v0)) (D.set i (layT T v0 row)) := by
  have hi := ho.lt4 hT
  have hs := ho.right i T hT
  have hrv : ∀ r, row = some r → ∀ k, okV (col r k) := fun r hr k => ((hrow r hr).1.col hs k).1
  have hwv : ∀ r, wasT T v0 = some r → ∀ k, okV (col r k) := fun r hr k => ho.val hT (wasT_some hr).1 k
  constructor
  · intro k v
    rw [getC_other]
    · rw [h.t]
      constructor
      · rintro ⟨j, U, hU, rfl, rfl⟩
        by_cases hj : j = i
        · subst hj
          rw [hT] at hU
          obtain rfl := Option.some.inj hU
          exact ⟨j, layT T v0 row, by rw [set_get hT, if_pos rfl], rfl, rfl⟩
        exact ⟨j, U, by rw [set_get hT, if_neg hj]; exact hU, rfl, rfl⟩
      rintro ⟨j, U, hU, rfl, rfl⟩
      rw [set_get hT] at hU
      split at hU
      · rename_i hj
        subst hj
        obtain rfl := Option.some.inj hU
        exact ⟨j, T, hT, rfl, rfl⟩
      exact ⟨j, U, hU, rfl, rfl⟩
    intro c hc
    simp only [layC, List.mem_append, List.mem_singleton] at hc
    rcases hc with hc | rfl
    · have := layIxs_sp _ _ _ _ c hc
      rw [this]; simp
    cases row <;> simp [layRow]
  · intro k v
    have e1 : getC (L ++ layC i T.s.ixs v0 row (wasT T v0)) 1 k = if rowK i v0 = k then row.map keyL else getC L 1 k := by
      rw [layC, ← List.append_assoc, getC_snoc, getC_other]
      · cases row <;> by_cases hk : rowK i v0 = k <;> simp [layRow, hk]
      intro c hc
      have := layIxs_sp _ _ _ _ c hc
      rw [this]; simp
    rw [e1]
    by_cases hk : rowK i v0 = k
    · rw [if_pos hk]
      subst hk
      constructor
      · intro hm
        obtain ⟨r, hr, rfl⟩ := Option.map_eq_some_iff.1 hm
        exact ⟨i, _, by rw [set_get hT, if_pos rfl], r, layT_mem.2 (.inr hr), by rw [(hrow r hr).2], rfl⟩
      rintro ⟨j, U, hU, r, hr, hk, rfl⟩
      rw [set_get hT] at hU
      split at hU
      · rename_i hj
        subst hj
        obtain rfl := Option.some.inj hU
        rcases layT_mem.1 hr with ⟨hr, hne⟩ | hr
        · exact absurd (rowK_inj (by omega) (by omega) hv (ho.val hT hr 0) hk).2.symm hne
        rw [hr]; rfl
      rename_i hj
      have := ho.lt4 hU
      exact absurd (rowK_inj (by omega) (by omega) hv (ho.val hU hr 0) hk).1.symm hj
    rw [if_neg hk, h.r]
    constructor
    · rintro ⟨j, U, hU, r, hr, rfl, rfl⟩
      by_cases hj : j = i
      · subst hj
        rw [hT] at hU
        obtain rfl := Option.some.inj hU
        exact ⟨j, _, by rw [set_get hT, if_pos rfl], r, layT_mem.2 (.inl ⟨hr, fun e => hk (by rw [e])⟩), rfl, rfl⟩
      exact ⟨j, U, by rw [set_get hT, if_neg hj]; exact hU, r, hr, rfl, rfl⟩
    rintro ⟨j, U, hU, r, hr, rfl, rfl⟩
    rw [set_get hT] at hU
    split at hU
    · rename_i hj
      subst hj
      obtain rfl := Option.some.inj hU
      rcases layT_mem.1 hr with ⟨hr, _⟩ | hr
      · exact ⟨j, T, hT, r, hr, rfl, rfl⟩
      exact absurd (by rw [(hrow r hr).2]) hk
    exact ⟨j, U, hU, r, hr, rfl, rfl⟩
  intro k v
  have e1 : getC (L ++ layC i T.s.ixs v0 row (wasT T v0)) 2 k = getC (L ++ T.s.ixs.flatMap (layIx i row (wasT T v0))) 2 k := by
    rw [layC, ← List.append_assoc, getC_snoc, if_neg]
    cases row <;> simp [layRow]
  rw [e1, layIxs_get i (by omega) row (wasT T v0) hrv hwv T.s.ixs L k (ixs_facts hs) (ixs_pair hs)]
  have hxs := ixs_facts hs
  by_cases h1 : ∃ r, row = some r ∧ ∃ x ∈ T.s.ixs, k = entK i x r
  · rw [if_pos h1]
    obtain ⟨r, hr, x, hx, rfl⟩ := h1
    constructor
    · intro hm
      obtain rfl := Option.some.inj hm
      exact ⟨i, _, by rw [set_get hT, if_pos rfl], r, layT_mem.2 (.inr hr), x, hx, rfl, rfl⟩
    rintro ⟨_, _, _, _, _, _, _, _, rfl⟩; rfl
  rw [if_neg h1]
  by_cases h2 : ∃ r, wasT T v0 = some r ∧ ∃ x ∈ T.s.ixs, k = entK i x r
  · rw [if_pos h2]
    obtain ⟨u, hu, x, hx, rfl⟩ := h2
    have hum := wasT_some hu
    refine ⟨fun hm => (by cases hm), ?_⟩
    rintro ⟨j, U, hU, r, hr, y, hy, hk, rfl⟩
    exfalso
    rw [set_get hT] at hU
    split at hU
    · rename_i hj
      subst hj
      obtain rfl := Option.some.inj hU
      rcases layT_mem.1 hr with ⟨hr, hne⟩ | hr
      · have := entK_inj (by omega) (by omega) (hxs x hx) (hxs y hy) (hwv u hu) (ho.val hT hr) hk
        exact hne (this.2.2.2.symm.trans hum.2)
      exact h1 ⟨r, hr, y, hy, hk⟩
    rename_i hj
    have hj4 := ho.lt4 hU
    have := entK_inj (by omega) (by omega) (hxs x hx) (ixs_facts (ho.right j U hU) y hy) (hwv u hu) (ho.val hU hr) hk
    exact hj this.1.symm
  rw [if_neg h2, h.e]
  constructor
  · rintro ⟨j, U, hU, r, hr, x, hx, rfl, rfl⟩
    by_cases hj : j = i
    rotate_left
    · exact ⟨j, U, by rw [set_get hT, if_neg hj]; exact hU, r, hr, x, hx, rfl, rfl⟩
    subst hj
    rw [hT] at hU
    obtain rfl := Option.some.inj hU
    refine ⟨j, _, by rw [set_get hT, if_pos rfl], r, layT_mem.2 (.inl ⟨hr, fun e => ?_⟩), x, hx, rfl, rfl⟩
    cases hw : wasT T v0 with
    | none => exact wasT_none hw r hr e
    | some u =>
      have hum := wasT_some hw
      have hur : u = r := by
        refine Classical.byContradiction fun hne => ?_
        have hkp := ho.keys j T hT
        obtain ⟨a, ha, rfl⟩ := List.getElem_of_mem hum.1
        obtain ⟨b, hb, rfl⟩ := List.getElem_of_mem hr
        rcases Nat.lt_trichotomy a b with hab | hab | hab
        · exact List.pairwise_iff_getElem.1 hkp a b ha hb hab (hum.2.trans e.symm)
        · subst hab; exact hne rfl
        exact List.pairwise_iff_getElem.1 hkp b a hb ha hab (e.trans hum.2.symm)
      exact h2 ⟨u, hw, x, hx, by rw [hur]⟩
  rintro ⟨j, U, hU, r, hr, x, hx, rfl, rfl⟩
  rw [set_get hT] at hU
  split at hU
  · rename_i hj
    subst hj
    obtain rfl := Option.some.inj hU
    rcases layT_mem.1 hr with ⟨hr, _⟩ | hr
    · exact ⟨j, T, hT, r, hr, x, hx, rfl, rfl⟩
    exact absurd ⟨r, hr, x, hx, rfl⟩ h1
  exact ⟨j, U, hU, r, hr, x, hx, rfl, rfl⟩
end
end Go.Proofs.YtekokogmnhlchaaGreatDoor
namespace Go.Proofs.YtekokogmnhlchaaGreatDoor
open Go.RowKit
theorem filter_none {T : Tb} {v0 : V} (h : wasT T v0 = none) : T.rows.filter (fun r => decide (col r 0 ≠ v0)) = T.rows := by
  rw [List.filter_eq_self]
  intro r hr
  simpa using wasT_none h r hr
theorem filter_len (v0 : V) : ∀ (l : List (List V)), l.Pairwise (fun a b => col a 0 ≠ col b 0) → ∀ u, l.find? (fun r => decide (col r 0 = v0)) = some u → (l.filter (fun r => decide (col r 0 ≠ v0))).length + 1 = l.length
  | [], _, u, h => by simp at h
  | r :: l, hp, u, h => by
    obtain ⟨h1, h2⟩ := List.pairwise_cons.1 hp
    by_cases hr : col r 0 = v0
    · have hall : l.filter (fun r => decide (col r 0 ≠ v0)) = l := by
        rw [List.filter_eq_self]
        intro q hq
        have := h1 q hq
        rw [hr] at this
        simpa using fun e => this e.symm
      rw [List.filter_cons_of_neg (by simpa using hr), hall]; simp
    rw [List.find?_cons_of_neg (by simpa using hr)] at h
    rw [List.filter_cons_of_pos (by simpa using hr)]
    have := filter_len v0 l h2 u h
    simp only [List.length_cons]; omega
section
variable {L : List Chg} {D : List Tb} {i : Nat} {T : Tb} {v0 : V} {row : Option (List V)}
theorem Ok.lay (ho : Ok D) (hT : D[i]? = some T) (hrow : ∀ r, row = some r → RowOf T.s r ∧ col r 0 = v0) (hn : (layT T v0 row).rows.length ≤ 64) : Ok (D.set i (layT T v0 row)) := by
  have back : ∀ (j : Nat) U, (D.set i (layT T v0 row))[j]? = some U → ∃ W, D[j]? = some W ∧ W.s = U.s := by
    intro j U hU
    rw [set_get hT] at hU
    split at hU
    · rename_i hj
      subst hj
      obtain rfl := Option.some.inj hU
      exact ⟨T, hT, rfl⟩
    exact ⟨U, hU, rfl⟩
  constructor
  · rw [List.length_set]; exact ho.n4
  · intro j U hU
    obtain ⟨W, hW, e⟩ := back j U hU
    rw [← e]; exact ho.right j W hW
  · intro j k U U' hU hU' e
    obtain ⟨W, hW, e1⟩ := back j U hU
    obtain ⟨W', hW', e2⟩ := back k U' hU'
    exact ho.names j k W W' hW hW' (by rw [e1, e2]; exact e)
  · intro j U hU r hr
    rw [set_get hT] at hU
    split at hU
    · obtain rfl := Option.some.inj hU
      rcases layT_mem.1 hr with ⟨hr, _⟩ | hr
      · exact ho.fit i T hT r hr
      exact (hrow r hr).1
    exact ho.fit j U hU r hr
  · intro j U hU
    rw [set_get hT] at hU
    split at hU
    · obtain rfl := Option.some.inj hU
      simp only [layT]
      rw [List.pairwise_append]
      refine ⟨(ho.keys i T hT).filter _, by cases row <;> simp, ?_⟩
      intro a ha b hb
      rw [List.mem_filter] at ha
      rw [Option.mem_toList] at hb
      rw [(hrow b hb).2]
      simpa using ha.2
    exact ho.keys j U hU
  intro j U hU
  rw [set_get hT] at hU
  split at hU
  · obtain rfl := Option.some.inj hU
    exact hn
  exact ho.n64 j U hU
theorem cntD_set (hT : D[i]? = some T) (U : Tb) (j : Nat) : cntD (D.set i U) j = if j = i then U.rows.length else cntD D j := by
  unfold cntD
  rw [set_get hT]
  by_cases h : j = i <;> simp [h]
theorem layC_sp (id : Nat) (xs : List Ix) (v0 : V) (row was : Option (List V)) : ∀ c ∈ layC id xs v0 row was, c.sp ≠ 3 ∧ c.sp ≠ 0 := by
  intro c hc
  simp only [layC, List.mem_append, List.mem_singleton] at hc
  rcases hc with hc | rfl
  · rw [layIxs_sp _ _ _ _ c hc]; decide
  cases row <;> simp [layRow]
theorem RepN.same (h : RepN L D) {M : List Chg} (hM : ∀ c ∈ M, c.sp ≠ 3) {D' : List Tb} (hc : ∀ j, cntD D' j = cntD D j) : RepN (L ++ M) D' := by
  intro j hj
  rw [getC_other L M 3 _ (fun c hcm => fun e => hM c hcm e.1), hc]
  exact h j hj
def cntC (id n : Nat) : Chg := ⟨3, [UInt8.ofNat id], [UInt8.ofNat n], false⟩
theorem Rep.cnt (h : Rep L D) (id n : Nat) : Rep (L ++ [cntC id n]) D := by
  constructor
  · intro k v; rw [getC_snoc, if_neg (by simp [cntC]), h.t]
  · intro k v; rw [getC_snoc, if_neg (by simp [cntC]), h.r]
  intro k v; rw [getC_snoc, if_neg (by simp [cntC]), h.e]
theorem RepN.lay (h : RepN L D) (ho : Ok D) (hT : D[i]? = some T) (was : Option (List V)) : RepN ((L ++ layC i T.s.ixs v0 row was) ++ [cntC i (layT T v0 row).rows.length]) (D.set i (layT T v0 row)) := by
  intro j hj
  have hi := ho.lt4 hT
  rw [getC_snoc, cntD_set hT]
  by_cases hji : j = i
  · subst hji
    right
    simp [cntC]
  rw [if_neg, if_neg hji, getC_other L _ 3 _ (fun c hcm => fun e => (layC_sp _ _ _ _ _ c hcm).1 e.1)]
  · exact h j hj
  simp only [cntC, List.cons.injEq, and_true, true_and]
  intro e
  exact hji (u8_id (by omega) (by omega) e).symm
theorem RepN.upd (h : RepN L D) (ho : Ok D) (hT : D[i]? = some T) {r u : List V} (hw : wasT T v0 = some u) : RepN (L ++ layC i T.s.ixs v0 (some r) (wasT T v0)) (D.set i (layT T v0 (some r))) := by
  refine h.same (fun c hc => (layC_sp _ _ _ _ _ c hc).1) fun j => ?_
  rw [cntD_set hT]
  split
  · rename_i hj
    subst hj
    have := filter_len v0 T.rows (ho.keys j T hT) u hw
    simp only [layT, Option.toList_some, List.length_append, List.length_singleton, cntD, hT]
    exact this
  rfl
def mkC (D : List Tb) (s : Sch) : Chg := ⟨0, s.name.data.toList, UInt8.ofNat D.length :: encS s, false⟩
theorem app_get (D : List Tb) (U : Tb) (j : Nat) : (D ++ [U])[j]? = if j = D.length then some U else D[j]? := by
  rw [List.getElem?_append]
  split
  · rename_i h; rw [if_neg (by omega)]
  rename_i h
  by_cases hj : j = D.length
  · subst hj; simp
  rw [if_neg hj, List.getElem?_eq_none (by simp; omega), List.getElem?_eq_none (by omega)]
theorem bytes_inj {a b : ByteArray} (h : a.data.toList = b.data.toList) : a = b := by
  cases a with
  | mk a => cases b with
    | mk b => simp only at h; rw [Array.toList_inj.1 h]
theorem Rep.make (h : Rep L D) {s : Sch} (hn : ∀ (j : Nat) T, D[j]? = some T → T.s.name ≠ s.name) : Rep (L ++ [mkC D s]) (D ++ [⟨s, []⟩]) := by
  constructor
  · intro k v
    rw [getC_snoc]
    by_cases hk : s.name.data.toList = k
    · rw [if_pos ⟨rfl, hk⟩]
      subst hk
      constructor
      · intro hm
        obtain rfl := Option.some.inj hm
        exact ⟨D.length, ⟨s, []⟩, by rw [app_get, if_pos rfl], rfl, rfl⟩
      rintro ⟨j, U, hU, hk, rfl⟩
      rw [app_get] at hU
      split at hU
      · rename_i hj
        subst hj
        obtain rfl := Option.some.inj hU
        rfl
      exact absurd (bytes_inj hk).symm (hn j U hU)
    rw [if_neg (fun e => hk e.2), h.t]
    constructor
    · rintro ⟨j, U, hU, rfl, rfl⟩
      refine ⟨j, U, ?_, rfl, rfl⟩
      rw [app_get, if_neg (by have := (List.getElem?_eq_some_iff.1 hU).1; omega)]; exact hU
    rintro ⟨j, U, hU, rfl, rfl⟩
    rw [app_get] at hU
    split at hU
    · obtain rfl := Option.some.inj hU
      exact absurd rfl hk
    exact ⟨j, U, hU, rfl, rfl⟩
  · intro k v
    rw [getC_snoc, if_neg (by simp [mkC]), h.r]
    constructor
    · rintro ⟨j, U, hU, r, hr, rfl, rfl⟩
      refine ⟨j, U, ?_, r, hr, rfl, rfl⟩
      rw [app_get, if_neg (by have := (List.getElem?_eq_some_iff.1 hU).1; omega)]; exact hU
    rintro ⟨j, U, hU, r, hr, rfl, rfl⟩
    rw [app_get] at hU
    split at hU
    · obtain rfl := Option.some.inj hU
      simp at hr
    exact ⟨j, U, hU, r, hr, rfl, rfl⟩
  intro k v
  rw [getC_snoc, if_neg (by simp [mkC]), h.e]
  constructor
  · rintro ⟨j, U, hU, r, hr, x, hx, rfl, rfl⟩
    refine ⟨j, U, ?_, r, hr, x, hx, rfl, rfl⟩
    rw [app_get, if_neg (by have := (List.getElem?_eq_some_iff.1 hU).1; omega)]; exact hU
  rintro ⟨j, U, hU, r, hr, x, hx, rfl, rfl⟩
  rw [app_get] at hU
  split at hU
  · obtain rfl := Option.some.inj hU
    simp at hr
  exact ⟨j, U, hU, r, hr, x, hx, rfl, rfl⟩
theorem RepN.make (h : RepN L D) (s : Sch) : RepN (L ++ [mkC D s]) (D ++ [⟨s, []⟩]) := by
  refine h.same (by simp [mkC]) fun j => ?_
  unfold cntD
  rw [app_get]
  by_cases hj : j = D.length
  · subst hj
    rw [if_pos rfl, List.getElem?_eq_none (Nat.le_refl _)]; rfl
  rw [if_neg hj]
theorem Ok.make (ho : Ok D) {s : Sch} (hs : rightS s = true) (hl : D.length < 4) (hn : ∀ (j : Nat) T, D[j]? = some T → T.s.name ≠ s.name) : Ok (D ++ [⟨s, []⟩]) := by
  have part : ∀ (j : Nat) U, (D ++ [⟨s, []⟩])[j]? = some U → (j = D.length ∧ U = ⟨s, []⟩) ∨ D[j]? = some U := by
    intro j U hU
    rw [app_get] at hU
    split at hU
    · rename_i hj
      exact .inl ⟨hj, (Option.some.inj hU).symm⟩
    exact .inr hU
  constructor
  · simp; omega
  · intro j U hU
    rcases part j U hU with ⟨_, rfl⟩ | hU
    · exact hs
    exact ho.right j U hU
  · intro j k U U' hU hU' e
    rcases part j U hU with ⟨h1, rfl⟩ | hU
    · rcases part k U' hU' with ⟨h2, rfl⟩ | hU'
      · omega
      exact absurd e.symm (hn k U' hU')
    rcases part k U' hU' with ⟨h2, rfl⟩ | hU'
    · exact absurd e (hn j U hU)
    exact ho.names j k U U' hU hU' e
  · intro j U hU r hr
    rcases part j U hU with ⟨_, rfl⟩ | hU
    · simp at hr
    exact ho.fit j U hU r hr
  · intro j U hU
    rcases part j U hU with ⟨_, rfl⟩ | hU
    · simp
    exact ho.keys j U hU
  intro j U hU
  rcases part j U hU with ⟨_, rfl⟩ | hU
  · simp
  exact ho.n64 j U hU
end
def findT : List Tb → ByteArray → Nat → Option (Nat × Tb)
  | [], _, _ => none
  | T :: D, nm, i => if T.s.name = nm then some (i, T) else findT D nm (i + 1)
theorem findT_some : ∀ {D : List Tb} {nm : ByteArray} {k i : Nat} {T : Tb}, findT D nm k = some (i, T) → k ≤ i ∧ D[i - k]? = some T ∧ T.s.name = nm
  | [], _, _, _, _, h => by simp [findT] at h
  | U :: D, nm, k, i, T, h => by
    unfold findT at h
    split at h
    · rename_i hn
      simp only [Option.some.injEq, Prod.mk.injEq] at h
      obtain ⟨rfl, rfl⟩ := h
      exact ⟨Nat.le_refl _, by simp, hn⟩
    obtain ⟨h1, h2, h3⟩ := findT_some h
    refine ⟨by omega, ?_, h3⟩
    rw [show i - k = (i - (k + 1)) + 1 by omega, List.getElem?_cons_succ]; exact h2
theorem findT_none : ∀ {D : List Tb} {nm : ByteArray} {k : Nat}, findT D nm k = none → ∀ (j : Nat) T, D[j]? = some T → T.s.name ≠ nm
  | [], _, _, _, j, T, h => by simp at h
  | U :: D, nm, k, hf, j, T, h => by
    unfold findT at hf
    split at hf
    · cases hf
    rename_i hn
    cases j with
    | zero => simp at h; rw [← h]; exact hn
    | succ j => exact findT_none hf j T (by simpa using h)
theorem findT_at {D : List Tb} {nm : ByteArray} {i : Nat} {T : Tb} (h : findT D nm 0 = some (i, T)) : D[i]? = some T ∧ T.s.name = nm := by
  obtain ⟨_, h2, h3⟩ := findT_some h
  exact ⟨by simpa using h2, h3⟩
def hurtB (T : Tb) (row : List V) : Bool := T.s.ixs.any fun x => x.uniq && (decide ((col row x.col.toNat).k ≠ 0) && T.rows.any fun r => decide (col r 0 ≠ col row 0) && decide (col r x.col.toNat = col row x.col.toNat))
def creE (D : List Tb) (s : Sch) : Int := if rightS s then (if D.any (fun T => decide (T.s.name = s.name)) then 60 else if 4 ≤ D.length then 2 else 0) else 61
def creD (D : List Tb) (s : Sch) : List Tb := if creE D s = 0 then D ++ [⟨s, []⟩] else D
def insE (D : List Tb) (nm : ByteArray) (row : List V) : Int := match findT D nm 0 with
  | none => 60
  | some (_, T) => if fitsB T.s row then (if (wasT T (col row 0)).isSome then 63 else if 64 ≤ T.rows.length then 2 else if hurtB T row then 64 else 0) else 62
def putD (D : List Tb) (nm : ByteArray) (v0 : V) (row : Option (List V)) : List Tb := match findT D nm 0 with
  | none => D
  | some (i, T) => D.set i (layT T v0 row)
def insD (D : List Tb) (nm : ByteArray) (row : List V) : List Tb := if insE D nm row = 0 then putD D nm (col row 0) (some row) else D
def updE (D : List Tb) (nm : ByteArray) (row : List V) : Int := match findT D nm 0 with
  | none => 60
  | some (_, T) => if fitsB T.s row then (if (wasT T (col row 0)).isSome then (if hurtB T row then 64 else 0) else 4) else 62
def updD (D : List Tb) (nm : ByteArray) (row : List V) : List Tb := if updE D nm row = 0 then putD D nm (col row 0) (some row) else D
def delE (D : List Tb) (nm : ByteArray) (key : V) : Int := match findT D nm 0 with
  | none => 60
  | some (_, T) => if rightV key = 0 then (if (wasT T key).isSome then 0 else 4) else 62
def delD (D : List Tb) (nm : ByteArray) (key : V) : List Tb := if delE D nm key = 0 then putD D nm key none else D
section
variable {L : List Chg} {D : List Tb} {i : Nat} {T : Tb}
theorem Rep.find_some (h : Rep L D) (hT : D[i]? = some T) : getC L 0 T.s.name.data.toList = some (UInt8.ofNat i :: encS T.s) := (h.t _ _).2 ⟨i, T, hT, rfl, rfl⟩
theorem Rep.find_none (h : Rep L D) {nm : ByteArray} (hn : findT D nm 0 = none) : getC L 0 nm.data.toList = none := by
  cases hg : getC L 0 nm.data.toList with
  | none => rfl
  | some v =>
    obtain ⟨j, U, hU, e, _⟩ := (h.t _ _).1 hg
    exact absurd (bytes_inj e).symm (findT_none hn j U hU)
theorem Rep.get_some (h : Rep L D) (hT : D[i]? = some T) {v : V} {r : List V} (hw : wasT T v = some r) : getC L 1 (rowK i v) = some (keyL r) := by
  have := wasT_some hw
  exact (h.r _ _).2 ⟨i, T, hT, r, this.1, by rw [this.2], rfl⟩
theorem Rep.get_none (h : Rep L D) (ho : Ok D) (hT : D[i]? = some T) {v : V} (hv : okV v) (hw : wasT T v = none) : getC L 1 (rowK i v) = none := by
  cases hg : getC L 1 (rowK i v) with
  | none => rfl
  | some x =>
    obtain ⟨j, U, hU, r, hr, e, _⟩ := (h.r _ _).1 hg
    have h1 := ho.lt4 hT
    have h2 := ho.lt4 hU
    obtain ⟨rfl, rfl⟩ := rowK_inj (by omega) (by omega) hv (ho.val hU hr 0) e
    rw [hT] at hU
    obtain rfl := Option.some.inj hU
    exact absurd rfl (wasT_none hw r hr)
theorem wasT_long (ho : Ok D) (hT : D[i]? = some T) {v : V} (hl : 28 < (keyV v).length) : wasT T v = none := by
  cases hw : wasT T v with
  | none => rfl
  | some r =>
    have := wasT_some hw
    have h2 := ((ho.fit i T hT r this.1).col (ho.right i T hT) 0).2
    rw [this.2] at h2
    omega
theorem Rep.cnt_of (h : RepN L D) (ho : Ok D) (hT : D[i]? = some T) : (getC L 3 [UInt8.ofNat i] = none ∧ T.rows.length = 0) ∨ getC L 3 [UInt8.ofNat i] = some [UInt8.ofNat T.rows.length] := by
  have := ho.lt4 hT
  have := h i (by omega)
  simpa [cntD, hT] using this
end
def inB (lo hi k : List UInt8) : Prop := ¬ cmpB k lo < 0 ∧ (hi = [] ∨ cmpB k hi < 0)
structure RangeL (L : List Chg) (sp : Int) (lo hi : List UInt8) (l : List (List UInt8 × List UInt8)) : Prop where
  srt : l.Pairwise fun a b => cmpB a.1 b.1 < 0
  mem : ∀ k v, (k, v) ∈ l ↔ getC L sp k = some v ∧ inB lo hi k
theorem srt_ext {α : Type} {f : α → List UInt8} : ∀ {a b : List α}, a.Pairwise (fun x y => cmpB (f x) (f y) < 0) → b.Pairwise (fun x y => cmpB (f x) (f y) < 0) → (∀ x, x ∈ a ↔ x ∈ b) → a = b
  | [], [], _, _, _ => rfl
  | [], y :: b, _, _, h => by simpa using (h y).2 (by simp)
  | x :: a, [], _, _, h => by simpa using (h x).1 (by simp)
  | x :: a, y :: b, ha, hb, h => by
    obtain ⟨ha1, ha2⟩ := List.pairwise_cons.1 ha
    obtain ⟨hb1, hb2⟩ := List.pairwise_cons.1 hb
    have hxy : x = y := by
      rcases List.mem_cons.1 ((h x).1 (by simp)) with e | e
      · exact e
      rcases List.mem_cons.1 ((h y).2 (by simp)) with e2 | e2
      · exact e2.symm
      have h1 := ha1 y e2
      have h2 := hb1 x e
      have := cmpB_trans h1 h2
      rw [cmpB_refl] at this
      omega
    subst hxy
    congr 1
    refine srt_ext ha2 hb2 fun z => ⟨fun hz => ?_, fun hz => ?_⟩
    · rcases List.mem_cons.1 ((h z).1 (by simp [hz])) with e | e
      · subst e
        have := ha1 z hz
        rw [cmpB_refl] at this
        omega
      exact e
    rcases List.mem_cons.1 ((h z).2 (by simp [hz])) with e | e
    · subst e
      have := hb1 z hz
      rw [cmpB_refl] at this
      omega
    exact e
theorem take2_other {l : List (List UInt8 × List UInt8)} (hs : l.Pairwise fun a b => cmpB a.1 b.1 < 0) (own : List UInt8) : (∃ p ∈ l.take 2, p.1 ≠ own) ↔ ∃ p ∈ l, p.1 ≠ own := by
  constructor
  · rintro ⟨p, hp, h⟩
    exact ⟨p, List.mem_of_mem_take hp, h⟩
  rintro ⟨p, hp, h⟩
  match l, hs, hp with
  | [], _, hp => simp at hp
  | [a], _, hp => exact ⟨p, by simpa using hp, h⟩
  | a :: b :: l, hs, _ =>
    by_cases ha : a.1 = own
    · refine ⟨b, by simp, fun hb => ?_⟩
      have := (List.pairwise_cons.1 hs).1 b (by simp)
      rw [ha, hb, cmpB_refl] at this
      omega
    exact ⟨a, by simp, ha⟩
theorem chT : SlT Tryz.prog 91 155 4 64 := ⟨by
  obtain ⟨i, hi, hz0, hz1, hz2⟩ := info_parts (P := Tryz.prog) (e := 155) (z := .agg #[.int .i64 0, .slice none 0 0, .slice none 0 0, .bool false]) (size := 4) (bytes := 64) (by kernel_rfl)
  exact ⟨i, _, Tryz.underlying91, hi, hz0, hz1, hz2, rfl, by omega⟩⟩
set_option maxHeartbeats 1600000 in
set_option maxRecDepth 100000 in
theorem dput_any (B0 db sb : Nat) (L : List Chg) (sp : Int) (A B : Option Addr) (n c m d : Nat) (key val : List UInt8) (w : World) (hd : DraftAt B0 w db sb L) (hk : RB w A n key) (hv : RB w B m val)
    (h : 0 ≤ sp) (h2 : sp < 16) (h3 : 0 < n) (h4 : n ≤ 60) (h5 : m ≤ 1800) (hL : L.length ≤ 1000000) (hB0 : B0 ≤ w.heap.size) :
    Calls Tryz.prog 56 #[.pointer (some ⟨db, 0, none⟩), .int .i64 sp, .slice A n c, .slice B m d] w (PutPost B0 db sb w (L ++ [⟨sp, key, val, false⟩])) := by
  have hd' := hd
  obtain ⟨A1, c1, xs, hd0, hB, hown, hE, hs⟩ := hd
  have g1 := cells_of_blk hd0 1 (v := .slice A1 L.length c1) rfl
  have Hd := hide hd'
  clear hd'
  go_enter Tryz.func56, Tryz.ntmps56
  go_wp2_with fail
  refine (dright_ok _ _ _ _ _ _ _ _ h h2 h3 h4 h5).mono ?_
  rintro e w' ⟨rfl, rfl⟩
  go_wp2_with fail
  have f1 : w.frozen? ⟨db, 1, none⟩ = false := by simp [World.frozen?, hd0]
  have hne : some db ≠ (Value.slice A1 L.length c1).ownBlock := by
    rcases hown.2 with ⟨h0, _⟩ | ⟨g, cap, cur, hg, hb0, hh, _⟩
    · rw [h0]; simp [Value.ownBlock]
    rw [hg]
    intro he
    have : db = g := by simpa [Value.ownBlock] using he
    subst this
    rw [hd0] at hh
    injection hh with hh
    injection hh with _ h1 _
    cases h1
  have hlt : db < w.heap.size := g1.lt
  go_region_law
    ((first
      | (refine step_app (base := B0) chT (by rfl) (by rfl) ((own_below hown hb2).alloc (.cells #[.int .i64 sp, .slice A3 n c3, .slice A4 m c4, .bool false] 155)) (by rfl) (Rd.of_own (World.ownsRow_lit (base := 0) w2 #[.int .i64 sp, .slice A3 n c3, .slice A4 m c4, .bool false] 1 (Nat.zero_le _) (by decide) rfl)) (by rfl) (by simp [Value.oneCell']) (by omega) (by omega) (by have := hb2.size; simp; omega) ?_; intro A5 c5 w5 hown5 hb5 hg5 hat5; have r1 := (hg5.cell_far ⟨db, 1, none⟩ (by have := hb2.size; simp; omega) hne).trans ((g1.below hb2).alloc _); have r2 := (hg5.frozen_far ⟨db, 1, none⟩ (by have := hb2.size; simp; omega) hne).trans ((World.frozen?_alloc_past _ _ _ (by have := hb2.size; omega)).trans ((hb2.frozen (p := ⟨db, 1, none⟩) hlt).trans f1)))
      | (refine step_call (f := 70) (by rfl) (by rfl) (by rfl) (by simp [go_sem]) (bclone2 A n c key _ hk.drew (by omega)) ?_; rintro e w1 ⟨A3, c3, rfl, hown1, hb1⟩; refine ⟨_, rfl, ?_⟩; have hb1 := undrewd hb1; have q1 := g1.below hb1; have q2 := (hb1.frozen (p := ⟨db, 1, none⟩) hlt).trans f1)
      | (refine step_call (f := 70) (by rfl) (by rfl) (by rfl) (by simp [go_sem]) (bclone2 B m d val _ (hv.below hb1) (by omega)) ?_; rintro e w2 ⟨A4, c4, rfl, hown2, hb2'⟩; refine ⟨_, rfl, ?_⟩; have hb2 := below_chain hb1 hb2'; clear q1 q2; have q1 := g1.below hb2; have q2 := (hb2.frozen (p := ⟨db, 1, none⟩) hlt).trans f1; have q0 : db < w2.heap.size := Nat.lt_of_lt_of_le hlt hb2.size)))
  all_goals go_simp
  all_goals go_wp2
  all_goals go_ret
  all_goals have hx : ChgAt B0 (w2.alloc (.cells #[.int .i64 sp, .slice A3 n c3, .slice A4 m c4, .bool false] 155)) ⟨sp, key, val, false⟩ [.int .i64 sp, .slice A3 n c3, .slice A4 m c4, .bool false] :=
    ⟨A3, n, c3, A4, m, c4, rfl, ((RdS.of_own hown1 (by decide) (by decide)).below hb2').alloc _, (RdS.of_own hown2 (by decide) (by decide)).alloc _⟩
  all_goals exact snoc_done B0 db sb w _ w5 L A1 A5 c1 c5 xs _ ⟨sp, key, val, false⟩ hd0 hB hown hE hs (hb2.alloc hb2.size _) hx rfl hown5 hg5 hat5
set_option maxHeartbeats 1600000 in
set_option maxRecDepth 100000 in
theorem ddel_any (B0 db sb : Nat) (L : List Chg) (sp : Int) (A : Option Addr) (n c : Nat) (key : List UInt8) (w : World) (hd : DraftAt B0 w db sb L) (hk : RB w A n key)
    (h : 0 ≤ sp) (h2 : sp < 16) (h3 : 0 < n) (h4 : n ≤ 60) (hL : L.length ≤ 1000000) (hB0 : B0 ≤ w.heap.size) :
    Calls Tryz.prog 120 #[.pointer (some ⟨db, 0, none⟩), .int .i64 sp, .slice A n c] w (PutPost B0 db sb w (L ++ [⟨sp, key, [], true⟩])) := by
  obtain ⟨A1, c1, xs, hd0, hB, hown, hE, hs⟩ := hd
  have g1 := cells_of_blk hd0 1 (v := .slice A1 L.length c1) rfl
  go_enter Tryz.func120, Tryz.ntmps120
  go_wp2_with fail
  refine (dright_ok _ _ _ _ _ _ _ _ h h2 h3 h4 (by omega)).mono ?_
  rintro e w' ⟨rfl, rfl⟩
  go_wp2_with fail
  have f1 : w.frozen? ⟨db, 1, none⟩ = false := by simp [World.frozen?, hd0]
  have hne : some db ≠ (Value.slice A1 L.length c1).ownBlock := by
    rcases hown.2 with ⟨h0, _⟩ | ⟨g, cap, cur, hg, hb0, hh, _⟩
    · rw [h0]; simp [Value.ownBlock]
    rw [hg]
    intro he
    have : db = g := by simpa [Value.ownBlock] using he
    subst this
    rw [hd0] at hh
    injection hh with hh
    injection hh with _ h1 _
    cases h1
  have hlt : db < w.heap.size := g1.lt
  go_region_law
    ((first
      | (refine step_app (base := B0) chT (by rfl) (by rfl) ((own_below hown hb2).alloc (.cells #[.int .i64 sp, .slice A3 n c3, .slice none 0 0, .bool true] 155)) (by rfl) (Rd.of_own (World.ownsRow_lit (base := 0) w2 #[.int .i64 sp, .slice A3 n c3, .slice none 0 0, .bool true] 1 (Nat.zero_le _) (by decide) rfl)) (by rfl) (by simp [Value.oneCell']) (by omega) (by omega) (by have := hb2.size; simp; omega) ?_; intro A5 c5 w5 hown5 hb5 hg5 hat5; have r1 := (hg5.cell_far ⟨db, 1, none⟩ (by have := hb2.size; simp; omega) hne).trans ((g1.below hb2).alloc _); have r2 := (hg5.frozen_far ⟨db, 1, none⟩ (by have := hb2.size; simp; omega) hne).trans ((World.frozen?_alloc_past _ _ _ (by have := hb2.size; omega)).trans ((hb2.frozen (p := ⟨db, 1, none⟩) hlt).trans f1)))
      | (refine step_call (f := 70) (by rfl) (by rfl) (by rfl) (by simp [go_sem]) (bclone2 A n c key _ hk.drew (by omega)) ?_; rintro e w2 ⟨A3, c3, rfl, hown1, hb2⟩; refine ⟨_, rfl, ?_⟩; have hb2 := undrewd hb2; have q1 := g1.below hb2; have q2 := (hb2.frozen (p := ⟨db, 1, none⟩) hlt).trans f1; have q0 : db < w2.heap.size := Nat.lt_of_lt_of_le hlt hb2.size)))
  all_goals go_simp
  all_goals go_wp2
  all_goals go_ret
  all_goals have hx : ChgAt B0 (w2.alloc (.cells #[.int .i64 sp, .slice A3 n c3, .slice none 0 0, .bool true] 155)) ⟨sp, key, [], true⟩ [.int .i64 sp, .slice A3 n c3, .slice none 0 0, .bool true] :=
    ⟨A3, n, c3, none, 0, 0, rfl, (RdS.of_own hown1 (by decide) (by decide)).alloc _, RdS.nil _ _ _ _⟩
  all_goals exact snoc_done B0 db sb w _ w5 L A1 A5 c1 c5 xs _ ⟨sp, key, [], true⟩ hd0 hB hown hE hs (hb2.alloc hb2.size _) hx rfl hown5 hg5 hat5
def Blk (w : World) (b : Nat) (cs : Array Value) (t : TypeId) : Prop := w.heap[b]? = some (.cells cs t (0, 0))
section
variable {w w' : World} {b : Nat} {cs : Array Value} {t : TypeId}
theorem Blk.c (h : Blk w b cs t) (i : Nat) {v : Value} (hv : cs[i]? = some v) : C w b i v := cells_of_blk h i hv
theorem Blk.fr (h : Blk w b cs t) (i : Nat) : w.frozen? ⟨b, i, none⟩ = false := by
  unfold Blk at h; simp [World.frozen?, h]
theorem Blk.lt (h : Blk w b cs t) : b < w.heap.size := by
  have h' : w.heap[b]? = _ := h
  exact (Array.getElem?_eq_some_iff.1 h').1
theorem Blk.below (h : Blk w b cs t) (hb : Below w.heap.size w w') : Blk w' b cs t := (hb.block b h.lt).trans h
theorem Blk.drew (h : Blk w b cs t) : Blk w.drew b cs t := h
theorem Blk.drewN (h : Blk w b cs t) (n : Nat) : Blk (w.drewN n) b cs t := h
theorem Blk.new (w : World) (cs : Array Value) (t : TypeId) : Blk (w.alloc (.cells cs t)) w.heap.size cs t := (MapKept.heap_alloc w _).1
theorem Blk.alloc (h : Blk w b cs t) (o : Obj) : Blk (w.alloc o) b cs t := h.below ((Below.refl _ _).alloc (Nat.le_refl _) o)
theorem Blk.far {row : Option Nat} (h : Blk w b cs t) (hg : w.grownBy w' row) (hb : some b ≠ row) : Blk w' b cs t := (hg.block b h.lt hb).trans h
theorem Blk.set (h : Blk w b cs t) (i : Nat) (v : Value) : Blk (w.setCell ⟨b, i, none⟩ v) b (cs.setIfInBounds i v) t := by
  have h' : w.heap[b]? = _ := h
  show (w.setCell _ _).heap[b]? = _
  simp [World.setCell, Array.getElem?_modify]
  exact ⟨_, h', rfl⟩
theorem Blk.set_other (h : Blk w b cs t) {a : Addr} (ha : b ≠ a.block) (v : Value) : Blk (w.setCell a v) b cs t := (Below.heap_setCell w a v b ha).trans h
end
theorem own_out {w : World} {base : Nat} {e : TypeId} {k n : Nat} {v : Value} {xs : List Value} (h : w.ownsRow base e k v n xs) {b : Nat} (hb : b < base) : some b ≠ v.ownBlock := fun he => by
  have := h.lt b he.symm
  omega
end Go.Proofs.YtekokogmnhlchaaGreatDoor
