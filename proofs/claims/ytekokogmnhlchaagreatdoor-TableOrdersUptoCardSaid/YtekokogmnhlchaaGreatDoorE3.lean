import Derived.Test.YtekokogmnhlchaaGreatDoorD7
import Derived.Test.YtekokogmnhlchaaGreatDoorD2
import Derived.Test.YtekokogmnhlchaaGreatDoorB2
import Derived.Test.YtekokogmnhlchaaGreatDoorD9
import Derived.Test.YtekokogmnhlchaaGreatDoorB5
import Derived.Test.YtekokogmnhlchaaGreatDoorD3
import Derived.Test.YtekokogmnhlchaaGreatDoorE2
import Derived.Deep.CutBlock
set_option linter.unusedSimpArgs false
set_option linter.unusedVariables false
namespace Go.Proofs.YtekokogmnhlchaaGreatDoor
open Go.RowKit
/-! ## Rows laid into one table, in two orders -/
def oneT (s : Sch) (rows : List (List V)) : List Tb := [⟨s, rows⟩]
theorem oneT_find (s : Sch) (rows : List (List V)) : findT (oneT s rows) s.name 0 = some (0, ⟨s, rows⟩) := by simp [oneT, findT]
/-- May two rows lie in one table? -/
def Peace (s : Sch) (a b : List V) : Prop := col a 0 ≠ col b 0 ∧ ∀ x ∈ s.ixs, x.uniq = true → (col a x.col.toNat).k ≠ 0 → col b x.col.toNat ≠ col a x.col.toNat
theorem Peace.symm {s : Sch} {a b : List V} (h : Peace s a b) : Peace s b a :=
  ⟨fun e => h.1 e.symm, fun x hx hu hk e => h.2 x hx hu (by rw [e]; exact hk) e.symm⟩
theorem ins_one {s : Sch} {rows : List (List V)} {r : List V} : insE (oneT s rows) s.name r = 0 ↔ fitsB s r = true ∧ rows.length < 64 ∧ ∀ u ∈ rows, Peace s u r := by
  constructor
  · intro h
    obtain ⟨i, T, hf, h1, h2, h3, h4, _⟩ := ins_facts h
    rw [oneT_find] at hf
    obtain ⟨rfl, rfl⟩ := Prod.mk.inj (Option.some.inj hf)
    refine ⟨h1, h3, fun u hu => Peace.symm ⟨fun e => wasT_none h2 u hu e.symm, fun x hx hxu hk e => ?_⟩⟩
    exact wasT_none h2 u hu (hurt_no h4 hx hxu hk hu e)
  · rintro ⟨h1, h2, h3⟩
    have hw : wasT ⟨s, rows⟩ (col r 0) = none := by
      rw [wasT, List.find?_eq_none]
      intro u hu
      simpa using (h3 u hu).1
    have hh : hurtB ⟨s, rows⟩ r = false := hurt_of fun x hx hxu hk u hu e => absurd e ((h3 u hu).symm.2 x hx hxu hk)
    rw [insE, oneT_find]
    simp only
    rw [if_pos h1, hw, if_neg (by simp), if_neg (by omega), hh]
    simp
theorem insD_one {s : Sch} {rows : List (List V)} {r : List V} (h : insE (oneT s rows) s.name r = 0) : insD (oneT s rows) s.name r = oneT s (rows ++ [r]) := by
  obtain ⟨i, T, hf, _, h2, _, _, e⟩ := ins_facts h
  rw [oneT_find] at hf
  obtain ⟨rfl, rfl⟩ := Prod.mk.inj (Option.some.inj hf)
  rw [e]
  simp [oneT, layT]
  intro u hu
  exact wasT_none h2 u hu
/-- Rows that may all lie in one table. -/
structure Good (s : Sch) (L : List (List V)) : Prop where
  fit : ∀ r ∈ L, fitsB s r = true
  peace : L.Pairwise (Peace s)
theorem Good.nil (s : Sch) : Good s [] := ⟨by simp, List.Pairwise.nil⟩
theorem Good.snoc {s : Sch} {L : List (List V)} {r : List V} (h : Good s L) (hi : insE (oneT s L) s.name r = 0) : Good s (L ++ [r]) := by
  obtain ⟨h1, _, h3⟩ := ins_one.1 hi
  refine ⟨fun u hu => ?_, ?_⟩
  · rcases List.mem_append.1 hu with hu | hu
    · exact h.fit u hu
    · rw [List.mem_singleton] at hu; subst hu; exact h1
  · rw [List.pairwise_append]
    exact ⟨h.peace, List.pairwise_singleton _ _, fun a ha b hb => by rw [List.mem_singleton] at hb; subst hb; exact h3 a ha⟩
/-- From behind, each is taken, too. -/
theorem Good.back {s : Sch} {L : List (List V)} (h : Good s L) (hl : L.length ≤ 20) (k : Nat) (hk : k < L.length) : insE (oneT s (L.drop (k + 1)).reverse) s.name L[k] = 0 := by
  refine ins_one.2 ⟨h.fit _ (List.getElem_mem hk), by rw [List.length_reverse, List.length_drop]; omega, fun u hu => ?_⟩
  rw [List.mem_reverse] at hu
  obtain ⟨j, hj, rfl⟩ := List.getElem_of_mem hu
  have hp := h.peace
  rw [List.pairwise_iff_getElem] at hp
  rw [List.length_drop] at hj
  rw [List.getElem_drop]
  exact (hp k (k + 1 + j) hk (by omega) (by omega)).symm
theorem rev_next {L : List (List V)} (k : Nat) (hk : k < L.length) : (L.drop (k + 1)).reverse ++ [L[k]] = (L.drop k).reverse := by
  rw [List.drop_eq_getElem_cons hk, List.reverse_cons]
/-- A scan tells the same of tables of the same rows. -/
theorem scan_same {s : Sch} {X Y : List (List V)} {i : Nat} {c : Int} {lo hi : V} {R S : List (List V)} (h : ScanL ⟨s, X⟩ i c lo hi R) (k : ScanL ⟨s, Y⟩ i c lo hi S) (hm : ∀ r, r ∈ X ↔ r ∈ Y) : R = S :=
  srt_ext h.srt k.srt fun r => by rw [h.mem, k.mem]; exact and_congr_left fun _ => hm r
end Go.Proofs.YtekokogmnhlchaaGreatDoor
namespace Go.Proofs.YtekokogmnhlchaaGreatDoor
open Go.RowKit
/-- headlandlaw13.New, since any beginning. -/
theorem lnew_two (w : World) : Calls Tryz.prog 15 #[] w fun e w' => ∃ db sb, e = .returned (.tuple #[.pointer (some ⟨db, 0, none⟩), .pointer (some ⟨sb, 0, none⟩)]) ∧ w.heap.size ≤ db ∧ (∀ B0, B0 ≤ w.heap.size → DraftAt B0 w' db sb []) ∧ (∀ k, Foot w' db k → k = db) ∧ Below w.heap.size w w' := by
  go_enter Tryz.func15, Tryz.ntmps15
  go_wp2_with fail
  refine (disknew_ok _).mono ?_
  rintro e W1 ⟨rfl, hD, hb1⟩
  have Hb1 := hide hb1
  generalize w.heap.size + 1 = kb at *
  clear hb1
  go_wp2_with fail
  refine (lopen_ok kb _ hD).mono ?_
  rintro e W2 ⟨sb, rfl, hF, hb2⟩
  go_wp2_with fail
  refine (dnew_ok sb _ hF).mono ?_
  rintro e W3 ⟨db, rfl, hlt, hn, hF3, hb3⟩
  have Hb := hide (below_chain Hb1.out (below_chain hb2 hb3))
  have Hl := hide (Nat.le_trans (below_chain Hb1.out hb2).size hlt)
  have Hn := hide hn
  have HF3 := hide hF3
  clear hb2 hb3 hF hn hF3 hlt hD
  go_wp2
  go_ret2
  refine ⟨db, sb, rfl, Hl.out, fun B0 hB => ⟨none, 0, [], Hn.out, Nat.le_trans hB Hl.out, World.ownsRow_nil _ _ _ _, Els.nil _ _, HF3.out.store _⟩, fun k hk => ?_, Hb.out⟩
  rcases hk with h | ⟨s, v, t, fr, h1, h2⟩
  · exact h
  · have h3 : _ = _ := Hn.out
    rw [h3] at h1
    injection h1 with h1
    injection h1 with h1 _ _
    have : v = .slice none 0 0 := by
      have h4 := congrArg (fun a : Array Value => a[1]?) h1
      simpa using h4.symm
    subst this
    simp [Value.ownBlock] at h2
section
variable {B0 db sb eb tb n m : Nat} {w0 w w' : World} {D E D' E' : List Tb}
theorem Foot.lt {k : Nat} (st : St B0 w0 w db sb n D) (h : Foot w db k) : k < w.heap.size := by
  obtain ⟨L, hd, _⟩ := st.ex
  obtain ⟨_, cs, T, fr, h2, _⟩ := hd.d.foot h
  exact (Array.getElem?_eq_some_iff.1 h2).1
/-- A draft, where another one is turned. -/
theorem St.other (st : St B0 w0 w db sb n D) (he : St B0 w0 w eb tb m E) (hu : Upd db w w') (hap : ∀ k, Foot w db k → ¬ Foot w eb k) : St B0 w0 w' eb tb m E := by
  obtain ⟨L, hd, _⟩ := st.ex
  obtain ⟨M, hE, hm⟩ := he.ex
  have hlt := hE.d.lt
  have hne : ∀ k, Foot w eb k → ¬ Foot w db k := fun k h1 h2 => hap k h2 h1
  have hsm : ∀ b, b < w.heap.size → Safe B0 w b → w'.heap[b]? = w.heap[b]? := fun b hb hs => hu.same b hb (hd.d.safe hs)
  obtain ⟨A, c, xs, hh, hB, hown, hEl, hs⟩ := hE.d.ex
  refine ⟨he.hB, Below.upd st.b st.hB hd.d hu, M, ⟨⟨A, c, xs, (hu.same eb hlt (hne eb (.inl rfl))).trans hh, hB, ?_, hEl.mono fun x v _ hx => ?_, hs.move hsm⟩, hE.rep, hE.cnt, hE.ok, hE.small, tabs_upd hE.tabs hd.d hu hE.b0, hE.b0⟩, hm⟩
  · refine ⟨hown.1, ?_⟩
    rcases hown.2 with h0 | ⟨g', cap, cur, hv, hb, hc, hr⟩
    · exact .inl h0
    · refine .inr ⟨g', cap, cur, hv, hb, ?_, hr⟩
      refine (hu.same g' (Array.getElem?_eq_some_iff.1 hc).1 (hne g' (.inr ⟨_, _, _, _, hh, ?_⟩))).trans hc
      rw [hv]; rfl
  · exact hx.upd hd.d hu
theorem Foot.other {k : Nat} (he : St B0 w0 w eb tb m E) (hu : Upd db w w') (hap : ∀ k, Foot w db k → ¬ Foot w eb k) (h : Foot w' eb k) : Foot w eb k := by
  obtain ⟨M, hE, _⟩ := he.ex
  rcases h with rfl | ⟨s, v, t, fr, h1, h2⟩
  · exact .inl rfl
  · rw [hu.same eb hE.d.lt (fun hf => hap eb hf (.inl rfl))] at h1
    exact .inr ⟨s, v, t, fr, h1, h2⟩
/-- Two drafts that know nothing of one another. -/
structure Two (B0 : Nat) (w0 w : World) (db sb n : Nat) (D : List Tb) (eb tb m : Nat) (E : List Tb) : Prop where
  d : St B0 w0 w db sb n D
  e : St B0 w0 w eb tb m E
  ap : ∀ k, Foot w db k → ¬ Foot w eb k
theorem Foot.below {k : Nat} (st : St B0 w0 w db sb n D) (hb : Below w.heap.size w w') (h : Foot w' db k) : Foot w db k := by
  rcases h with rfl | ⟨s, v, t, fr, h1, h2⟩
  · exact .inl rfl
  · rw [hb.block db st.lt] at h1
    exact .inr ⟨s, v, t, fr, h1, h2⟩
theorem Two.below (h : Two B0 w0 w db sb n D eb tb m E) (hb : Below w.heap.size w w') : Two B0 w0 w' db sb n D eb tb m E :=
  ⟨h.d.below hb, h.e.below hb, fun k h1 h2 => h.ap k (Foot.below h.d hb h1) (Foot.below h.e hb h2)⟩
theorem Two.swap (h : Two B0 w0 w db sb n D eb tb m E) : Two B0 w0 w eb tb m E db sb n D := ⟨h.e, h.d, fun k h1 h2 => h.ap k h2 h1⟩
theorem Two.left {n' : Nat} (h : Two B0 w0 w db sb n D eb tb m E) (hd : St B0 w0 w' db sb n' D') (hu : Upd db w w') : Two B0 w0 w' db sb n' D' eb tb m E := by
  refine ⟨hd, h.d.other h.e hu h.ap, fun k h1 h2 => ?_⟩
  have h3 := Foot.other h.e hu h.ap h2
  rcases hu.foot k h1 with h4 | h4
  · exact h.ap k h4 h3
  · have := Foot.lt h.e h3
    omega
theorem Two.right {m' : Nat} (h : Two B0 w0 w db sb n D eb tb m E) (he : St B0 w0 w' eb tb m' E') (hu : Upd eb w w') : Two B0 w0 w' db sb n D eb tb m' E' := (h.swap.left he hu).swap
theorem Two.new (h : St B0 w0 w db sb n D) (hd : DraftAt B0 w' eb tb []) (hf : ∀ k, Foot w' eb k → k = eb) (hl : w.heap.size ≤ eb) (hb : Below w.heap.size w w') : Two B0 w0 w' db sb n D eb tb 0 [] := by
  have h' := h.below hb
  obtain ⟨L, hdb, _⟩ := h'.ex
  refine ⟨h', ⟨h.hB, h'.b, [], DbAt.new hd hdb.tabs hdb.b0, Nat.le_refl _⟩, fun k h1 h2 => ?_⟩
  have h3 := hf k h2
  have h4 := Foot.lt h (Foot.below h hb h1)
  omega
end
end Go.Proofs.YtekokogmnhlchaaGreatDoor
namespace Go.Proofs.YtekokogmnhlchaaGreatDoor
open Go.RowKit
/-- Rows that came in. -/
def RowsI (B0 : Nat) (W : World) (A : Option Addr) (n : Nat) (l : List (List V)) : Prop := l.length = n ∧ ∃ sl : List Value, RdS B0 W 1 A n sl ∧ ∀ (j : Nat) (r : List V), l[j]? = some r → ∃ Aj cj, sl[j]? = some (.slice Aj r.length cj) ∧ r.length ≤ cj ∧ RdS B0 W 3 Aj r.length (rowCells r)
theorem RowsI.below {B0 n : Nat} {w w' : World} {A : Option Addr} {l : List (List V)} (h : RowsI B0 w A n l) (hb : Below w.heap.size w w') : RowsI B0 w' A n l := by
  obtain ⟨h0, sl, h1, h2⟩ := h
  exact ⟨h0, sl, h1.below hb, fun j r hj => by obtain ⟨Aj, cj, h3, h4, h5⟩ := h2 j r hj; exact ⟨Aj, cj, h3, h4, h5.below hb⟩⟩
theorem RowsI.upd {B0 db sb n m : Nat} {w0 w w' : World} {D : List Tb} {A : Option Addr} {l : List (List V)} (h : RowsI B0 w A n l) (st : St B0 w0 w db sb m D) (hu : Upd db w w') : RowsI B0 w' A n l := by
  obtain ⟨h0, sl, h1, h2⟩ := h
  exact ⟨h0, sl, st.rds h1 hu, fun j r hj => by obtain ⟨Aj, cj, h3, h4, h5⟩ := h2 j r hj; exact ⟨Aj, cj, h3, h4, st.rds h5 hu⟩⟩
theorem RowsI.at_ {B0 n : Nat} {w : World} {A : Option Addr} {l : List (List V)} (h : RowsI B0 w A n l) (j : Nat) (hj : j < n) {r : List V} (hr : l[j]? = some r) : ∃ b o Aj cj, A = some ⟨b, o, none⟩ ∧ C w b (o + j) (.slice Aj r.length cj) ∧ r.length ≤ cj ∧ RdS B0 w 3 Aj r.length (rowCells r) := by
  obtain ⟨h0, sl, h1, h2⟩ := h
  obtain ⟨Aj, cj, h3, h4, h5⟩ := h2 j r hr
  have hsl : sl.length = n * 1 := h1.rd.1
  obtain ⟨b, o, hA, hc⟩ := h1.rd.some_ (by omega)
  exact ⟨b, o, Aj, cj, hA, (hc j (by omega)).trans h3, h4, h5⟩
theorem RowsI.cell_upd {B0 db sb n m b o p : Nat} {w0 w w' : World} {D : List Tb} {l : List (List V)} {v : Value} (h : RowsI B0 w (some ⟨b, o, none⟩) n l) (hn : 0 < n) (st : St B0 w0 w db sb m D) (hu : Upd db w w') (hc : C w b p v) : C w' b p v := by
  obtain ⟨_, sl, h1, _⟩ := h
  rcases h1.2 with h0 | ⟨b', o', he, hlt, hs⟩
  · omega
  · injection he with he
    injection he with e1 e2 _
    subst e1 e2
    obtain ⟨L, hd, _⟩ := st.ex
    exact hc.upd hs hd.d hu
theorem trod_rows {H : Type} {enc : TypeId × Value → H} {W : World} {sp : Nat → Bool} {held : Bool} {fuel : Nat} {cs : List Value} {x : DataW H × List MemPlace} (h : DataW.trod enc Tryz.prog W 0 sp held fuel 26 cs = some x) :
    ∃ (A : Option Addr) (l : List (List V)) (c : Nat), cs = [.slice A l.length c] ∧ l.length ≤ c ∧ RowsI W.heap.size W A l.length l ∧ (∀ r ∈ l, (∀ v ∈ r, v.fit (Rows.uptoBulk x.1)) ∧ r.length ≤ Rows.uptoBulk x.1) ∧ l.length ≤ Rows.uptoBulk x.1 := by
  obtain ⟨A, l, c, xs, rfl, hc, hr, hE, hb⟩ := trod_els (k := 1) Tryz.underlying26 (by kernel_rfl) (by omega) (fun (r : List V) cs m => (∃ Aj cj, cs = [.slice Aj r.length cj] ∧ r.length ≤ cj ∧ RdS W.heap.size W 3 Aj r.length (rowCells r)) ∧ (∀ v ∈ r, v.fit m) ∧ r.length ≤ m) (fun fuel cs x h => by
    obtain ⟨Aj, r, cj, h1, h2, h3, h4, h5⟩ := trod_row h
    exact ⟨r, ⟨Aj, cj, h1, h2, h3⟩, h4, h5⟩) h
  refine ⟨A, l, c, rfl, hc, ⟨rfl, xs, hr, fun j r hj => ?_⟩, fun r hr => ?_, hb⟩
  · obtain ⟨hlt, rfl⟩ := List.getElem?_eq_some_iff.1 hj
    obtain ⟨v, hv, ⟨m, ⟨⟨Aj, cj, rfl, h2, h3⟩, _⟩, _⟩, hx⟩ := hE.at_ j hlt
    have h0 := hx 0 (by omega)
    rw [Nat.mul_one, Nat.add_zero] at h0
    exact ⟨Aj, cj, h0, h2, h3⟩
  · exact hE.all (Q := fun r => (∀ v ∈ r, v.fit (Rows.uptoBulk x.1)) ∧ r.length ≤ Rows.uptoBulk x.1) (fun r cs ⟨m, hm, hle⟩ => ⟨fun v hv => (hm.2.1 v hv).mono hle, Nat.le_trans hm.2.2 hle⟩) r hr
/-- An operation that bears a schema, and one that bears a row. -/
def opS (s : Sch) : OpV := ⟨0, ⟨#[]⟩, s, [], nothing, 0, nothing, nothing, 0⟩
def opR (r : List V) : OpV := ⟨0, ⟨#[]⟩, ⟨⟨#[]⟩, [], []⟩, r, nothing, 0, nothing, nothing, 0⟩
theorem field35 (CA' XA' RA' : Option Addr) (cc' xc' rc' m : Nat) (W : World) : (Instr.field 35 (.agg #[.int .i64 0, .string ⟨#[]⟩, .string ⟨#[]⟩, .slice CA' 0 cc', .slice XA' 0 xc', .slice RA' m rc', .int .i64 0, .int .i64 0, .string ⟨#[]⟩, .int .i64 0, .int .i64 0, .int .i64 0, .string ⟨#[]⟩, .int .i64 0, .int .i64 0, .string ⟨#[]⟩, .int .i64 0]) 3).run Tryz.prog W = .ok (.slice RA' m rc') W := by kernel_rfl
/-- law15.op of a row alone. -/
theorem opR_ok (B0 : Nat) (r : List V) (Aj : Option Addr) (cj : Nat) (w : World) (hc : r.length ≤ cj) (hr : RdS B0 w 3 Aj r.length (rowCells r)) :
    Calls Tryz.prog 16 #[.agg #[.int .i64 0, .string ⟨#[]⟩, .string ⟨#[]⟩, .slice none 0 0, .slice none 0 0, .slice Aj r.length cj, .int .i64 0, .int .i64 0, .string ⟨#[]⟩, .int .i64 0, .int .i64 0, .int .i64 0, .string ⟨#[]⟩, .int .i64 0, .int .i64 0, .string ⟨#[]⟩, .int .i64 0]] w fun e w' => ∃ CA' cc' XA' xc' RA' rc', e = .returned (.agg #[.int .i64 0, .string ⟨#[]⟩, .string ⟨#[]⟩, .slice CA' 0 cc', .slice XA' 0 xc', .slice RA' (r.take 4).length rc', .int .i64 0, .int .i64 0, .string ⟨#[]⟩, .int .i64 0, .int .i64 0, .int .i64 0, .string ⟨#[]⟩, .int .i64 0, .int .i64 0, .string ⟨#[]⟩, .int .i64 0]) ∧ RdS B0 w' 3 RA' (r.take 4).length (rowCells (r.take 4)) ∧ Below w.heap.size w w' := by
  have h := op_any B0 (opR r) (#[.int .i64 0, .string ⟨#[]⟩, .string ⟨#[]⟩, .slice none 0 0, .slice none 0 0, .slice Aj r.length cj, .int .i64 0, .int .i64 0, .string ⟨#[]⟩, .int .i64 0, .int .i64 0, .int .i64 0, .string ⟨#[]⟩, .int .i64 0, .int .i64 0, .string ⟨#[]⟩, .int .i64 0]).toList w ⟨none, 0, none, 0, Aj, cj, rfl, Nat.le_refl _, Nat.le_refl _, hc, RdS.nil _ _ _ _, RdS.nil _ _ _ _, hr⟩
  refine h.mono fun e w' hp => ?_
  obtain ⟨cs', rfl, ⟨CA, cc, XA, xc, RA, rc, rfl, _, _, _, _, _, h6⟩, hb⟩ := hp
  exact ⟨CA, cc, XA, xc, RA, rc, rfl, h6, hb⟩
theorem Two.more2 {B0 db sb eb tb n m m' : Nat} {w0 w : World} {D E : List Tb} (h : Two B0 w0 w db sb n D eb tb m E) (hm : m ≤ m') : Two B0 w0 w db sb n D eb tb m' E := ⟨h.d, h.e.more hm, h.ap⟩
/-- What a scan tells of one table. -/
def Tells (s : Sch) (X : List (List V)) (c : Int) (lo hi : V) (k : Nat) (Q : List (List V)) : Prop := (scanE ⟨s, X⟩ c lo hi k = 0 → ∃ R, ScanL ⟨s, X⟩ 0 c lo hi R ∧ Q = R.take k) ∧ (scanE ⟨s, X⟩ c lo hi k ≠ 0 → Q = [])
theorem Tells.eq {s : Sch} {X Y : List (List V)} {c : Int} {lo hi : V} {k : Nat} {Q Q' : List (List V)} (h : Tells s X c lo hi k Q) (h' : Tells s Y c lo hi k Q') (hm : ∀ r, r ∈ X ↔ r ∈ Y) : Q = Q' := by
  have he : scanE ⟨s, X⟩ c lo hi k = scanE ⟨s, Y⟩ c lo hi k := rfl
  by_cases h0 : scanE ⟨s, X⟩ c lo hi k = 0
  · obtain ⟨R, h1, h2⟩ := h.1 h0
    obtain ⟨S, h3, h4⟩ := h'.1 (he ▸ h0)
    rw [h2, h4, scan_same h1 h3 hm]
  · rw [h.2 h0, h'.2 (he ▸ h0)]
theorem scan_tells {B0 db sb n : Nat} {w0 w : World} {s : Sch} {X : List (List V)} (st : St B0 w0 w db sb n (oneT s X)) (hn : n ≤ 50000) (c : Int) (lo hi : V) (k : Nat) (hnm : s.name.size ≤ 9223372036854775807) (hlo : lo.fit 1048576) (hhi : hi.fit 1048576) (hk : k ≤ 4) :
    Calls Tryz.prog 20 #[.pointer (some ⟨db, 0, none⟩), .string s.name, .int .i64 c, lo.val, hi.val, .int .i64 (k : Nat)] w fun e w' => ∃ A c' Q, e = .returned (.tuple #[.slice A Q.length c', .int .i64 (scanE ⟨s, X⟩ c lo hi k)]) ∧ RowsR w' A Q.length Q ∧ Tells s X c lo hi k Q ∧ Q.length ≤ 100000000 ∧ Below w.heap.size w w' := by
  have hsc := st.scan s.name c lo hi k hn hnm hlo.2.1 (by have := hlo.2.2; omega) hhi.2.1 (by have := hhi.2.2; omega)
  refine hsc.mono fun e w' hp => ?_
  obtain ⟨h1, h2⟩ := hp
  rw [oneT_find] at h1
  simp only at h1
  by_cases h0 : scanE ⟨s, X⟩ c lo hi k = 0
  · rw [if_pos h0] at h1
    obtain ⟨R, A, c', hR, he, hrows⟩ := h1
    have hmem : ∀ r ∈ R.take (Int.toNat (k : Nat)), 0 < r.length ∧ r.length ≤ 100000000 := fun r hr => by
      have h3 := ((hR.mem r).1 (List.mem_of_mem_take hr)).1
      have h4 := st.ok.fit 0 ⟨s, X⟩ rfl r h3
      have h5 := right_facts (st.ok.right 0 ⟨s, X⟩ rfl)
      have h6 := h4.pos (st.ok.right 0 ⟨s, X⟩ rfl)
      have h7 := fits_len h4.fit
      have h8 := h5.c3
      exact ⟨h6, by omega⟩
    obtain ⟨cl, ho⟩ := RowsAt.out hrows (fun r hr => (hmem r hr).1)
    have hl : (R.take k).length = min R.length (Int.toNat (k : Nat)) := by rw [List.length_take]; simp; omega
    refine ⟨A, c', R.take k, by rw [hl, h0]; exact he, ?_, ⟨fun _ => ⟨R, hR, rfl⟩, fun h => absurd h0 h⟩, by rw [List.length_take]; omega, h2⟩
    have := ho.read (fun r hr => (hmem r hr).2)
    rw [hl]
    simpa using this
  · rw [if_neg h0] at h1
    exact ⟨none, 0, [], h1, ⟨[], Rd.nil _ _ _, rfl, fun j r hj => by simp at hj⟩, ⟨fun h => absurd h h0, fun _ => rfl⟩, by simp, h2⟩
set_option maxHeartbeats 6400000 in
set_option maxRecDepth 1000000 in
theorem orders_ok (s : Sch) (cs : Array Value) (A : Option Addr) (n c : Nat) (l : List (List V)) (ci : Int) (lo hi : V) (w : World) (hs : SchI w.heap.size w s cs.toList) (hsf : s.fit 1048576) (hr : RowsI w.heap.size w A n l) (hrf : ∀ r ∈ l, (∀ v ∈ r, v.fit 1048576) ∧ r.length ≤ 1048576)
    (hn : n ≤ 1048576) (hlo : lo.fit 1048576) (hhi : hi.fit 1048576) (hT : Tabs w) :
    Calls Tryz.prog 3 #[.agg cs, .slice A n c, .int .i64 ci, lo.val, hi.val] w fun e w' => e = .returned (.bool true) ∧ Below w.heap.size w w' := by
  obtain ⟨CA, cc, XA, xc, hcs, k1, k2, k3, k4⟩ := hs
  have hcs2 : cs = #[.string s.name, .slice CA s.cols.length cc, .slice XA s.ixs.length xc] := Array.toList_inj.1 hcs
  subst hcs2
  have hopS : OpAt w.heap.size w (opS s) [.int .i64 0, .string ⟨#[]⟩, .string s.name, .slice CA s.cols.length cc, .slice XA s.ixs.length xc, .slice none 0 0, .int .i64 0, .int .i64 0, .string ⟨#[]⟩, .int .i64 0, .int .i64 0, .int .i64 0, .string ⟨#[]⟩, .int .i64 0, .int .i64 0, .string ⟨#[]⟩, .int .i64 0] :=
    ⟨CA, cc, XA, xc, none, 0, rfl, k1, k2, Nat.le_refl _, k3, k4, RdS.nil _ _ _ _⟩
  obtain ⟨lk, ln, ls⟩ := lo
  obtain ⟨yk, yn, yz⟩ := hi
  show Calls Tryz.prog 3 #[.agg #[.string s.name, .slice CA s.cols.length cc, .slice XA s.ixs.length xc], .slice A n c, .int .i64 ci, .agg #[.int .i64 lk, .int .i64 ln, .string ls], .agg #[.int .i64 yk, .int .i64 yn, .string yz]] w _
  have ha0 := (Below.refl w.heap.size w).alloc (Nat.le_refl _) (.cells #[.string s.name, .slice CA s.cols.length cc, .slice XA s.ixs.length xc] 25)
  have ha1 := ha0.alloc ha0.size (.cells #[.int .i64 lk, .int .i64 ln, .string ls] 28)
  have ha2 := ha1.alloc ha1.size (.cells #[.int .i64 yk, .int .i64 yn, .string yz] 28)
  have hb0 := ((Blk.new w #[.string s.name, .slice CA s.cols.length cc, .slice XA s.ixs.length xc] 25).alloc (.cells #[.int .i64 lk, .int .i64 ln, .string ls] 28)).alloc (.cells #[.int .i64 yk, .int .i64 yn, .string yz] 28)
  have hb1 := (Blk.new (w.alloc (.cells #[.string s.name, .slice CA s.cols.length cc, .slice XA s.ixs.length xc] 25)) #[.int .i64 lk, .int .i64 ln, .string ls] 28).alloc (.cells #[.int .i64 yk, .int .i64 yn, .string yz] 28)
  have hb2 := Blk.new ((w.alloc (.cells #[.string s.name, .slice CA s.cols.length cc, .slice XA s.ixs.length xc] 25)).alloc (.cells #[.int .i64 lk, .int .i64 ln, .string ls] 28)) #[.int .i64 yk, .int .i64 yn, .string yz] 28
  rw [show (w.alloc (.cells #[.string s.name, .slice CA s.cols.length cc, .slice XA s.ixs.length xc] 25)).heap.size = w.heap.size + 1 by simp] at hb1
  rw [show ((w.alloc (.cells #[.string s.name, .slice CA s.cols.length cc, .slice XA s.ixs.length xc] 25)).alloc (.cells #[.int .i64 lk, .int .i64 ln, .string ls] 28)).heap.size = w.heap.size + 1 + 1 by simp] at hb2
  obtain ⟨W1, hW1⟩ : ∃ W1, ((w.alloc (.cells #[.string s.name, .slice CA s.cols.length cc, .slice XA s.ixs.length xc] 25)).alloc (.cells #[.int .i64 lk, .int .i64 ln, .string ls] 28)).alloc (.cells #[.int .i64 yk, .int .i64 yn, .string yz] 28) = W1 := ⟨_, rfl⟩
  have hl := hr.1
  have HT := hide hT
  have Hsf := hide hsf
  have Hrf := hide hrf
  have HopS := hide hopS
  have HRI := hide hr
  have Hlo := hide hlo
  have Hhi := hide hhi
  have Ha2 := hide ha2
  have Hb0 := hide hb0
  have Hb1 := hide hb1
  have Hb2 := hide hb2
  clear hT hsf hrf hopS hr hlo hhi ha0 ha1 ha2 hb0 hb1 hb2 hcs k1 k2 k3 k4
  go_enter Tryz.func3, Tryz.ntmps3
  go_wp2_with fail
  rw [hW1] at Ha2 Hb0 Hb1 Hb2
  clear hW1
  refine (lnew_two _).mono ?_
  rintro e w1 ⟨db, sb, rfl, hdb, hd, hft, hb⟩
  have hbw := below_chain Ha2.out hb
  have S1 := hide (St.new (hd _ Ha2.out.size) hbw HT.out HT.out.three)
  have N0 := hide (Hb0.out.below hb)
  have N1 := hide (Hb1.out.below hb)
  have N2 := hide (Hb2.out.below hb)
  clear hd hft hb hdb hbw Hb0 Hb1 Hb2 Ha2
  go_wp2_with fail
  refine (lnew_two _).mono ?_
  rintro e w2 ⟨eb, tb, rfl, heb, hd, hft, hb⟩
  have T2 := hide (Two.new S1.out (hd _ S1.out.le) hft heb hb)
  have N0 := hide (N0.out.below hb)
  have N1 := hide (N1.out.below hb)
  have N2 := hide (N2.out.below hb)
  clear hd hft hb heb S1
  have c00 := N0.out.c 0 (v := .string s.name) rfl
  have c01 := N0.out.c 1 (v := .slice CA s.cols.length cc) rfl
  have c02 := N0.out.c 2 (v := .slice XA s.ixs.length xc) rfl
  have hopc := op_any w.heap.size (opS s) _ w2 (HopS.out.below (below_chain (Below.refl w.heap.size w) T2.out.d.b))
  have Hopc := hide hopc
  clear hopc
  go_wp2_with fail
  refine Hopc.out.mono ?_
  rintro e w3 ⟨cs', rfl, hop3, hb3⟩
  have hname : (cut4 (opS s)).s.name = s.name := rfl
  have hfit : (cut4 (opS s)).s.fit 1048576 := ⟨Hsf.out.1, fun c hc => Hsf.out.2.1 c (List.mem_of_mem_take hc), by show (s.cols.take 4).length ≤ _; rw [List.length_take]; omega, by show (s.ixs.take 4).length ≤ _; rw [List.length_take]; omega⟩
  obtain ⟨o', ho'⟩ : ∃ o', cut4 (opS s) = o' := ⟨_, rfl⟩
  rw [ho'] at hop3 hname hfit
  clear ho'
  obtain ⟨kk, tt, ss, rr, ky, cq, lo', hi', lim⟩ := o'
  obtain ⟨CA', cc', XA', xc', RA', rc', rfl, k1, k2, k3, k4, k5, k6⟩ := hop3
  dsimp only at k1 k2 k3 k4 k5 k6 hname hfit ⊢
  have hal := (Below.refl w3.heap.size w3).alloc (Nat.le_refl _) (.cells #[.int .i64 kk, .string tt, .string ss.name, .slice CA' ss.cols.length cc', .slice XA' ss.ixs.length xc', .slice RA' rr.length rc', .int .i64 ky.k, .int .i64 ky.n, .string ky.s, .int .i64 cq, .int .i64 lo'.k, .int .i64 lo'.n, .string lo'.s, .int .i64 hi'.k, .int .i64 hi'.n, .string hi'.s, .int .i64 lim] 35)
  have hnb := Blk.new w3 #[.int .i64 kk, .string tt, .string ss.name, .slice CA' ss.cols.length cc', .slice XA' ss.ixs.length xc', .slice RA' rr.length rc', .int .i64 ky.k, .int .i64 ky.n, .string ky.s, .int .i64 cq, .int .i64 lo'.k, .int .i64 lo'.n, .string lo'.s, .int .i64 hi'.k, .int .i64 hi'.n, .string hi'.s, .int .i64 lim] 35
  have hb4 := below_chain hb3 hal
  have T4 := hide (T2.out.below hb4)
  have N04 := hide (N0.out.below hb4)
  have N14 := hide (N1.out.below hb4)
  have N24 := hide (N2.out.below hb4)
  have HC := hide (k4.below hal)
  have HX := hide (k5.below hal)
  have Hname := hide hname
  have Hfit := hide hfit
  have d2 := hnb.c 2 (v := .string ss.name) rfl
  have d3 := hnb.c 3 (v := .slice CA' ss.cols.length cc') rfl
  have d4 := hnb.c 4 (v := .slice XA' ss.ixs.length xc') rfl
  have Hnb := hide hnb
  have hcr := T4.out.d.creA (s := ss) (sv := .agg #[.string ss.name, .slice CA' ss.cols.length cc', .slice XA' ss.ixs.length xc']) (by omega) (hfit.small (by omega)) ⟨_, _, _, _, rfl, k1, k2, HC.out.rd, HX.out.rd⟩
  have Hcr := hide hcr
  clear hcr hnb hal hb3 hb4 k4 k5 k6 T2 N0 N1 N2 c00 c01 c02 Hopc hname hfit HopS
  go_wp2_with fail
  refine Hcr.out.mono ?_
  rintro e w5 ⟨rfl, hs5, hu5⟩
  have T5 := hide (T4.out.left hs5 hu5)
  have N05 := hide (T4.out.d.blk N04.out (by decide) (by decide) hu5)
  have N15 := hide (T4.out.d.blk N14.out (by decide) (by decide) hu5)
  have N25 := hide (T4.out.d.blk N24.out (by decide) (by decide) hu5)
  have K5 := T4.out.d.blk Hnb.out (by decide) (by decide) hu5
  have e2 := K5.c 2 (v := .string ss.name) rfl
  have e3 := K5.c 3 (v := .slice CA' ss.cols.length cc') rfl
  have e4 := K5.c 4 (v := .slice XA' ss.ixs.length xc') rfl
  have HC5 := hide (T4.out.d.rds HC.out hu5)
  have HX5 := hide (T4.out.d.rds HX.out hu5)
  have R5 := hide ((HRI.out.below (below_chain (Below.refl w.heap.size w) T4.out.d.b)).upd T4.out.d hu5)
  have hcr := T5.out.e.creA (s := ss) (sv := .agg #[.string ss.name, .slice CA' ss.cols.length cc', .slice XA' ss.ixs.length xc']) (by omega) (Hfit.out.small (by omega)) ⟨_, _, _, _, rfl, k1, k2, HC5.out.rd, HX5.out.rd⟩
  have Hcr2 := hide hcr
  have B5 := hide hs5.b
  clear hcr hs5 hu5 T4 N04 N14 N24 K5 d2 d3 d4 Hnb Hcr HC HX
  by_cases hz : creE [] ss = 0
  · rw [hz]
    rw [hz] at Hcr2
    go_wp2_with fail
    refine Hcr2.out.mono ?_
    rintro e w6 ⟨rfl, hs6, hu6⟩
    have hcd : creD [] ss = oneT ss [] := by rw [creD, if_pos hz]; rfl
    have T6 := hide (T5.out.right hs6 hu6)
    rw [hcd] at T6
    have N06 := hide (T5.out.e.blk N05.out (by decide) (by decide) hu6)
    have N16 := hide (T5.out.e.blk N15.out (by decide) (by decide) hu6)
    have N26 := hide (T5.out.e.blk N25.out (by decide) (by decide) hu6)
    have R6 := hide (R5.out.upd T5.out.e hu6)
    clear hs6 hu6 T5 N05 N15 N25 e2 e3 e4 Hcr2 HC5 HX5 R5 B5 hcd hz k1 k2
    obtain ⟨q, hq⟩ : ∃ q : Nat, min (n : Int) 20 = (q : Int) := ⟨min n 20, by omega⟩
    have hqn : q = min n 20 := by omega
    have Hqn := hide hqn
    clear hqn
    go_wp2_with fail
    obtain ⟨L, hL⟩ : ∃ L, (l.take q).map (List.take 4) = L := ⟨_, rfl⟩
    have hLl : L.length = q := by rw [← hL, List.length_map, List.length_take]; omega
    have hLg : ∀ (k : Nat) (r : List V), k < q → l[k]? = some r → L[k]? = some (r.take 4) := fun k r hk hr => by rw [← hL, List.getElem?_map, List.getElem?_take, if_pos hk, hr]; rfl
    have HLl := hide hLl
    have HLg := hide hLg
    clear hL hLl hLg
    have c00 := N06.out.c 0 (v := .string s.name) rfl
    clear c00
    go_loopw [17] (fun iv wr => ∃ k : Nat, k ≤ q ∧ iv = .int .i64 k ∧ Hid (Two w.heap.size w wr db sb (8 + 8 * k) (oneT ss (L.take k)) eb tb 8 (oneT ss [])) ∧ Hid (Good ss (L.take k)) ∧ Hid (Blk wr w.heap.size #[.string s.name, .slice CA s.cols.length cc, .slice XA s.ixs.length xc] 25) ∧ Hid (Blk wr (w.heap.size + 1) #[.int .i64 lk, .int .i64 ln, .string ls] 28) ∧ Hid (Blk wr (w.heap.size + 1 + 1) #[.int .i64 yk, .int .i64 yn, .string yz] 28) ∧ Hid (RowsI w.heap.size wr A n l)) (fun iv _ => q - (intOf iv).toNat)
    case atStart => exact ⟨0, Nat.zero_le _, rfl, T6, hide (Good.nil _), N06, N16, N26, R6⟩
    case round =>
      clear T6 N06 N16 N26 R6
      obtain ⟨k, hk, rfl, HTw, HG, H0, H1, H2, HRR⟩ := hrel
      by_cases hlt : k < q
      · have hkn : k < n := by have := Hqn.out; omega
        obtain ⟨r, hr⟩ : ∃ r, l[k]? = some r := ⟨_, List.getElem?_eq_getElem (by omega)⟩
        obtain ⟨b, o, Aj, cj, rfl, x0, hcj, hrd⟩ := HRR.out.at_ k hkn hr
        have hrfit := Hrf.out r (List.mem_of_getElem? hr)
        have hLk := HLg.out k r hlt hr
        have hop : ∀ W, Below wr.heap.size wr W → Calls Tryz.prog 16 _ W _ := fun W hW => opR_ok w.heap.size r Aj cj W hcj (hrd.below hW)
        obtain ⟨r4, hr4⟩ : ∃ r4, r.take 4 = r4 := ⟨_, rfl⟩
        have hf4 : ∀ v ∈ r4, v.fit 1048576 := fun v hv => hrfit.1 v (List.mem_of_mem_take (hr4 ▸ hv))
        obtain ⟨rl, hrl⟩ : ∃ rl, r.length = rl := ⟨_, rfl⟩
        rw [hr4, hrl] at hop
        rw [hr4] at hLk
        rw [hrl] at x0
        have c0 := H0.out.c 0 (v := .string s.name) rfl
        have hki : (k : Int) < (q : Int) := by omega
        have hkni : (k : Int) < (n : Int) := by omega
        obtain ⟨r4l, hr4l⟩ : ∃ rl, r4.length = rl := ⟨_, rfl⟩
        rw [hr4l] at hop
        obtain ⟨ce, hce⟩ : ∃ ce, insE (oneT ss (L.take k)) ss.name r4 = ce := ⟨_, rfl⟩
        have hin : ∀ (W : World) (RA' : Option Addr) (rc' : Nat), Below wr.heap.size wr W → RdS w.heap.size W 3 RA' r4l (rowCells r4) → Calls Tryz.prog 19 #[.pointer (some ⟨db, 0, none⟩), .string s.name, .slice RA' r4l rc'] W fun e w' => e = .returned (.int .i64 ce) ∧ St w.heap.size w w' db sb (8 + 8 * k + 8) (insD (oneT ss (L.take k)) ss.name r4) ∧ Upd db W w' := fun W RA' rc' hW hR => by
          rw [← hce, ← Hname.out]
          exact (HTw.out.d.below hW).ins (by omega) (by rw [Hname.out]; have := Hsf.out.1; omega) hR hr4l (fun v hv => (hf4 v hv).2.1) (fun v hv => Nat.le_trans (hf4 v hv).2.2 (by omega))
        have hfld := field35
        have haft : ∀ W W', Below wr.heap.size wr W → Upd db W W' → C W' w.heap.size 0 (.string s.name) ∧ C W' b (o + k) (.slice Aj rl cj) := fun W W' hW hu =>
          ⟨((HTw.out.d.below hW).blk (H0.out.below hW) (by decide) (by decide) hu).c 0 rfl, (HRR.out.below hW).cell_upd (by omega) (HTw.out.d.below hW) hu (x0.below hW)⟩
        have Haft := hide haft
        clear haft
        have Hop := hide hop
        have Hin := hide hin
        have Hce := hide hce
        have HLk := hide hLk
        clear hop hin hce hLk hr hrfit hrd hf4 hcj hr4 hrl hr4l
        go_wp2_with fail
        go_region_held3 (fun w' => w'.cell? ⟨w.heap.size, 0, none⟩ = some (.string s.name) ∧ w'.cell? ⟨b, o + k, none⟩ = some (.slice Aj rl cj))
          ((first | (go_keep; done) | exact ⟨c0.below (undrewd hb7), x0.below (undrewd hb7)⟩ | exact Haft.out _ _ (undrewd hb7) hu8))
          ((first
            | (go_at_call 16; refine (Hop.out _ ((Below.refl _ _).drew)).mono ?_; rintro e w7 ⟨CA7, cc7, XA7, xc7, RA7, rc7, rfl, hR7, hb7⟩)
            | (go_at_call 19; refine (Hin.out _ _ _ (undrewd hb7) hR7).mono ?_; rintro e w8 ⟨rfl, hs8, hu8⟩)))
        all_goals
          have hW7 := undrewd hb7
          have T8 := hide ((HTw.out.below hW7).left hs8 hu8)
          have H08 := hide ((HTw.out.d.below hW7).blk (H0.out.below hW7) (by decide) (by decide) hu8)
          have H18 := hide ((HTw.out.d.below hW7).blk (H1.out.below hW7) (by decide) (by decide) hu8)
          have H28 := hide ((HTw.out.d.below hW7).blk (H2.out.below hW7) (by decide) (by decide) hu8)
          have R8 := hide ((HRR.out.below hW7).upd (HTw.out.d.below hW7) hu8)
          have B8 := hide hs8.b
          clear hs8 hu8 hb7 hW7 hR7 HTw H0 H1 H2 HRR Hop Hin Haft c0 x0 hfld
          by_cases hz : ce = 0
          · have hc0 := Hce.out
            rw [hz] at hc0
            have hd := insD_one hc0
            have htk : L.take (k + 1) = L.take k ++ [r4] := by rw [List.take_add_one, HLk.out]; rfl
            have T9 := T8
            rw [hd, ← htk] at T9
            have G9 := hide (by rw [htk]; exact HG.out.snoc hc0 : Good ss (L.take (k + 1)))
            have hzb : (ce != 0) = false := by simpa using hz
            clear hz hc0 hd htk T8 HG Hce
            go_wp2_with fail
            exact ⟨⟨k + 1, hlt, by go_num, T9, G9, H08, H18, H28, R8⟩, by simp [intOf]; omega⟩
          · have hzb : (ce != 0) = true := by simpa using hz
            clear hz T8 H08 H18 H28 R8 Hce HG HLk HRI Hrf
            have hto := told_ok w8 (HT.out.below B8.out) (Nat.le_trans HT.out.three B8.out.size)
            have Hto := hide hto
            clear hto 
            go_wp2_with fail
            refine Hto.out.mono ?_
            rintro e w9 ⟨rfl, hb9⟩
            go_wp2_with fail
            go_ret
            exact ⟨rfl, below_then B8.out B8.out.size hb9⟩
      · have hke : k = q := by omega
        subst hke
        have hkk : ¬ (k : Int) < (k : Int) := by omega
        have HTT := hide (by have := HTw.out; rw [List.take_of_length_le (by rw [HLl.out]; exact Nat.le_refl _)] at this; exact this : Two w.heap.size w wr db sb (8 + 8 * k) (oneT ss L) eb tb 8 (oneT ss []))
        have HGG := hide (by have := HG.out; rw [List.take_of_length_le (by rw [HLl.out]; exact Nat.le_refl _)] at this; exact this : Good ss L)
        clear HTw HG
        go_wp2_with fail
        have d5 := H0.out.c 0 (v := .string s.name) rfl
        clear d5
        go_loopw [19] (fun iv wr' => ∃ m : Int, -1 ≤ m ∧ m < (k : Int) ∧ iv = .int .i64 m ∧ Hid (Two w.heap.size w wr' db sb (8 + 8 * k) (oneT ss L) eb tb (8 + 8 * (k - (m + 1).toNat)) (oneT ss (L.drop (m + 1).toNat).reverse)) ∧ Hid (Blk wr' w.heap.size #[.string s.name, .slice CA s.cols.length cc, .slice XA s.ixs.length xc] 25) ∧ Hid (Blk wr' (w.heap.size + 1) #[.int .i64 lk, .int .i64 ln, .string ls] 28) ∧ Hid (Blk wr' (w.heap.size + 1 + 1) #[.int .i64 yk, .int .i64 yn, .string yz] 28) ∧ Hid (RowsI w.heap.size wr' A n l)) (fun iv _ => (intOf iv + 1).toNat)
        case atStart => exact ⟨(k : Int) - 1, by omega, by omega, rfl, hide (by rw [show ((k : Int) - 1 + 1).toNat = k by omega, List.drop_of_length_le (by rw [HLl.out]; exact Nat.le_refl _)]; exact HTT.out.more2 (by omega)), H0, H1, H2, HRR⟩
        case round =>
          clear HTT H0 H1 H2 HRR
          obtain ⟨m, hm1, hm2, rfl, HTw, H0, H1, H2, HRR⟩ := hrel
          by_cases hm0 : 0 ≤ m
          · obtain ⟨j, rfl⟩ := Int.eq_ofNat_of_zero_le hm0
            have hjk : j < k := by omega
            have hjn : j < n := by have := Hqn.out; omega
            have hjL : j < L.length := by rw [HLl.out]; exact hjk
            obtain ⟨r, hr⟩ : ∃ r, l[j]? = some r := ⟨_, List.getElem?_eq_getElem (by omega)⟩
            obtain ⟨b, o, Aj, cj, rfl, x0, hcj, hrd⟩ := HRR.out.at_ j hjn hr
            have hrfit := Hrf.out r (List.mem_of_getElem? hr)
            have hLj := HLg.out j r hjk hr
            have hop : ∀ W, Below wr.heap.size wr W → Calls Tryz.prog 16 _ W _ := fun W hW => opR_ok w.heap.size r Aj cj W hcj (hrd.below hW)
            have hbk := HGG.out.back (by rw [HLl.out]; have := Hqn.out; omega) j hjL
            have hL4 : L[j] = r.take 4 := by rw [List.getElem?_eq_getElem hjL] at hLj; exact Option.some.inj hLj
            rw [hL4] at hbk
            have hnx := rev_next j hjL
            rw [hL4] at hnx
            have hins := insD_one hbk
            rw [hnx] at hins
            have HTx := hide (by have := HTw.out; rw [show ((j : Int) + 1).toNat = j + 1 by omega] at this; exact this : Two w.heap.size w wr db sb (8 + 8 * k) (oneT ss L) eb tb (8 + 8 * (k - (j + 1))) (oneT ss (L.drop (j + 1)).reverse))
            obtain ⟨r4, hr4⟩ : ∃ r4, r.take 4 = r4 := ⟨_, rfl⟩
            have hf4 : ∀ v ∈ r4, v.fit 1048576 := fun v hv => hrfit.1 v (List.mem_of_mem_take (hr4 ▸ hv))
            obtain ⟨rl, hrl⟩ : ∃ rl, r.length = rl := ⟨_, rfl⟩
            rw [hr4, hrl] at hop
            rw [hr4] at hbk hins
            rw [hrl] at x0
            have c0 := H0.out.c 0 (v := .string s.name) rfl
            have hjni : (j : Int) < (n : Int) := by omega
            obtain ⟨r4l, hr4l⟩ : ∃ rl, r4.length = rl := ⟨_, rfl⟩
            rw [hr4l] at hop
            have hk20 : k ≤ 20 := by have := Hqn.out; omega
            have hin : ∀ (W : World) (RA' : Option Addr) (rc' : Nat), Below wr.heap.size wr W → RdS w.heap.size W 3 RA' r4l (rowCells r4) → Calls Tryz.prog 19 #[.pointer (some ⟨eb, 0, none⟩), .string s.name, .slice RA' r4l rc'] W fun e w' => e = .returned (.int .i64 0) ∧ St w.heap.size w w' eb tb (8 + 8 * (k - (j + 1)) + 8) (oneT ss (L.drop j).reverse) ∧ Upd eb W w' := fun W RA' rc' hW hR => by
              have h := (HTx.out.e.below hW).ins (nm := ss.name) (row := r4) (A := RA') (m := r4l) (c := rc') (by omega) (by rw [Hname.out]; have := Hsf.out.1; omega) hR hr4l (fun v hv => (hf4 v hv).2.1) (fun v hv => Nat.le_trans (hf4 v hv).2.2 (by omega))
              rw [hbk, hins, Hname.out] at h
              exact h
            have hfld := field35
            have haft : ∀ W W', Below wr.heap.size wr W → Upd eb W W' → C W' w.heap.size 0 (.string s.name) ∧ C W' b (o + j) (.slice Aj rl cj) := fun W W' hW hu =>
              ⟨((HTx.out.e.below hW).blk (H0.out.below hW) (by decide) (by decide) hu).c 0 rfl, (HRR.out.below hW).cell_upd (by omega) (HTx.out.e.below hW) hu (x0.below hW)⟩
            have Haft := hide haft
            have Hop := hide hop
            have Hin := hide hin
            clear haft hop hin hLj hr hrfit hrd hf4 hcj hr4 hrl hr4l hbk hins hnx hL4 HTw
            go_wp2_with fail
            go_region_held3 (fun w' => w'.cell? ⟨w.heap.size, 0, none⟩ = some (.string s.name) ∧ w'.cell? ⟨b, o + j, none⟩ = some (.slice Aj rl cj))
              ((first | (go_keep; done) | exact ⟨c0.below (undrewd hb7), x0.below (undrewd hb7)⟩ | exact Haft.out _ _ (undrewd hb7) hu8))
              ((first
                | (go_at_call 16; refine (Hop.out _ ((Below.refl _ _).drew)).mono ?_; rintro e w7 ⟨CA7, cc7, XA7, xc7, RA7, rc7, rfl, hR7, hb7⟩)
                | (go_at_call 19; refine (Hin.out _ _ _ (undrewd hb7) hR7).mono ?_; rintro e w8 ⟨rfl, hs8, hu8⟩)))
            all_goals
              have hW7 := undrewd hb7
              have T8 := hide (((HTx.out.below hW7).right hs8 hu8).more2 (m' := 8 + 8 * (k - j)) (by omega))
              have H08 := hide ((HTx.out.e.below hW7).blk (H0.out.below hW7) (by decide) (by decide) hu8)
              have H18 := hide ((HTx.out.e.below hW7).blk (H1.out.below hW7) (by decide) (by decide) hu8)
              have H28 := hide ((HTx.out.e.below hW7).blk (H2.out.below hW7) (by decide) (by decide) hu8)
              have R8 := hide ((HRR.out.below hW7).upd (HTx.out.e.below hW7) hu8)
              clear hs8 hu8 hb7 hW7 hR7 HTx H0 H1 H2 HRR Hop Hin Haft c0 x0 hfld
              go_wp2_with fail
              exact ⟨⟨(j : Int) - 1, by omega, by omega, by go_num, by rw [show ((j : Int) - 1 + 1).toNat = j by omega]; exact T8, H08, H18, H28, R8⟩, by simp [intOf]⟩
          · have hme : m = -1 := by omega
            subst hme
            have HTx := hide (by have := HTw.out; simp at this; exact this : Two w.heap.size w wr db sb (8 + 8 * k) (oneT ss L) eb tb (8 + 8 * k) (oneT ss L.reverse))
            have hk20 : k ≤ 20 := by have := Hqn.out; omega
            have hLk := HLl.out
            clear HTw HRR HRI Hrf
            go_wp2_with fail
            go_loopw [20] (fun iv wr' => ∃ i : Nat, 1 ≤ i ∧ i ≤ 5 ∧ iv = .int .i64 i ∧ Hid (Two w.heap.size w wr' db sb (8 + 8 * k) (oneT ss L) eb tb (8 + 8 * k) (oneT ss L.reverse)) ∧ Hid (Blk wr' w.heap.size #[.string s.name, .slice CA s.cols.length cc, .slice XA s.ixs.length xc] 25) ∧ Hid (Blk wr' (w.heap.size + 1) #[.int .i64 lk, .int .i64 ln, .string ls] 28) ∧ Hid (Blk wr' (w.heap.size + 1 + 1) #[.int .i64 yk, .int .i64 yn, .string yz] 28)) (fun iv _ => 5 - (intOf iv).toNat)
            case atStart => exact ⟨1, by omega, by omega, rfl, HTx, H0, H1, H2⟩
            case round =>
              clear HTx H0 H1 H2
              obtain ⟨i, hi1, hi2, rfl, HTx, H0, H1, H2⟩ := hrel
              have c0 := H0.out.c 0 (v := .string s.name) rfl
              by_cases hi5 : i ≤ 4
              · have hii : (i : Int) ≤ 4 := by omega
                have l0 := H1.out.c 0 (v := .int .i64 lk) rfl
                have l1 := H1.out.c 1 (v := .int .i64 ln) rfl
                have l2 := H1.out.c 2 (v := .string ls) rfl
                have h0 := H2.out.c 0 (v := .int .i64 yk) rfl
                have h1 := H2.out.c 1 (v := .int .i64 yn) rfl
                have h2 := H2.out.c 2 (v := .string yz) rfl
                have hnm9 : ss.name.size ≤ 9223372036854775807 := by rw [Hname.out]; have := Hsf.out.1; omega
                have hs1 := scan_tells HTx.out.d (by omega) ci ⟨lk, ln, ls⟩ ⟨yk, yn, yz⟩ i hnm9 Hlo.out Hhi.out hi5
                obtain ⟨se, hse⟩ : ∃ se, scanE ⟨ss, L⟩ ci ⟨lk, ln, ls⟩ ⟨yk, yn, yz⟩ i = se := ⟨_, rfl⟩
                rw [Hname.out, hse] at hs1
                have hs1' : Calls Tryz.prog 20 #[.pointer (some ⟨db, 0, none⟩), .string s.name, .int .i64 ci, .agg #[.int .i64 lk, .int .i64 ln, .string ls], .agg #[.int .i64 yk, .int .i64 yn, .string yz], .int .i64 i] wr _ := hs1
                have Hs1 := hide hs1'
                have Hse := hide hse
                clear hs1 hs1' hse hnm9
                go_wp2_with fail
                refine Hs1.out.mono ?_
                rintro e w11 ⟨A11, c11, Q, rfl, hq11, ht11, hql, hb11⟩
                have T11 := hide (HTx.out.below hb11)
                have H011 := H0.out.below hb11
                have H111 := H1.out.below hb11
                have H211 := H2.out.below hb11
                have c0 := H011.c 0 (v := .string s.name) rfl
                have l0 := H111.c 0 (v := .int .i64 lk) rfl
                have l1 := H111.c 1 (v := .int .i64 ln) rfl
                have l2 := H111.c 2 (v := .string ls) rfl
                have h0 := H211.c 0 (v := .int .i64 yk) rfl
                have h1 := H211.c 1 (v := .int .i64 yn) rfl
                have h2 := H211.c 2 (v := .string yz) rfl
                have hnm9 : ss.name.size ≤ 9223372036854775807 := by rw [Hname.out]; have := Hsf.out.1; omega
                have hs2 := scan_tells T11.out.e (by omega) ci ⟨lk, ln, ls⟩ ⟨yk, yn, yz⟩ i hnm9 Hlo.out Hhi.out hi5
                rw [Hname.out, show scanE ⟨ss, L.reverse⟩ ci ⟨lk, ln, ls⟩ ⟨yk, yn, yz⟩ i = se from Hse.out] at hs2
                have hs2' : Calls Tryz.prog 20 #[.pointer (some ⟨eb, 0, none⟩), .string s.name, .int .i64 ci, .agg #[.int .i64 lk, .int .i64 ln, .string ls], .agg #[.int .i64 yk, .int .i64 yn, .string yz], .int .i64 i] w11 _ := hs2
                have Hs2 := hide hs2'
                have H011 := hide H011
                have H111 := hide H111
                have H211 := hide H211
                have HQ := hide hq11
                have Ht11 := hide ht11
                obtain ⟨ql, hqe⟩ : ∃ ql, Q.length = ql := ⟨_, rfl⟩
                rw [hqe] at HQ hql ⊢
                have Hqe := hide hqe
                clear hs2 hs2' hnm9 hq11 ht11 hb11 Hs1 HTx H0 H1 H2 hqe
                go_wp2_with fail
                refine Hs2.out.mono ?_
                rintro e w12 ⟨A12, c12, Q', rfl, hq12, ht12, _, hb12⟩
                have hQQ := Ht11.out.eq ht12 (fun r => List.mem_reverse.symm)
                subst hQQ
                rw [Hqe.out] at hq12 ⊢
                have hsr := samerows_any A11 A12 ql c11 ql c12 Q Q w12 (HQ.out.below hb12) hq12 hql
                rw [show decide (Q = Q) = true by simp] at hsr
                have Hsr := hide hsr
                have T12 := hide (T11.out.below hb12)
                have H012 := hide (H011.out.below hb12)
                have H112 := hide (H111.out.below hb12)
                have H212 := hide (H211.out.below hb12)
                clear hsr hq12 ht12 hb12 Hs2 T11 H011 H111 H211 HQ Ht11 c0 l0 l1 l2 h0 h1 h2
                go_wp2_with fail
                refine Hsr.out.mono ?_
                rintro e w13 ⟨rfl, hb13⟩
                have T13 := hide (T12.out.below hb13)
                have H013 := hide (H012.out.below hb13)
                have H113 := hide (H112.out.below hb13)
                have H213 := hide (H212.out.below hb13)
                clear hb13 Hsr T12 H012 H112 H212
                go_wp2_with fail
                exact ⟨⟨i + 1, by omega, by omega, by go_num, T13, H013, H113, H213⟩, by simp [intOf]; omega⟩
              · have hii : ¬ (i : Int) ≤ 4 := by omega
                have hlen := HTx.out.d.len s.name (by have := Hsf.out.1; omega)
                rw [← Hname.out, oneT_find] at hlen
                simp only [hLk] at hlen
                rw [Hname.out] at hlen
                have Hlen := hide hlen
                have HTd := hide HTx.out.d.b
                clear hlen HTx H0 H1 H2
                go_wp2_with fail
                refine Hlen.out.mono ?_
                rintro e w14 ⟨rfl, hb14⟩
                have B14 := hide (below_then HTd.out HTd.out.size hb14)
                have hto := told_ok w14 (HT.out.below B14.out) (Nat.le_trans HT.out.three B14.out.size)
                have Hto := hide hto
                clear hto hb14 Hlen HTd
                go_wp2_with fail
                refine Hto.out.mono ?_
                rintro e w15 ⟨rfl, hb15⟩
                go_wp2_with fail
                go_ret
                exact ⟨rfl, below_then B14.out B14.out.size hb15⟩
  · obtain ⟨ce, hce⟩ : ∃ ce, creE [] ss = ce := ⟨_, rfl⟩
    rw [hce] at hz ⊢
    have hzb : (ce != 0) = true := by simpa using hz
    have hto := told_ok w5 (HT.out.below B5.out) (Nat.le_trans HT.out.three B5.out.size)
    have Hto := hide hto
    clear hto T5 N05 N15 N25 e2 e3 e4 Hcr2 HC5 HX5 R5 hce hz HRI Hrf
    go_wp2_with fail
    refine Hto.out.mono ?_
    rintro e w9 ⟨rfl, hb9⟩
    go_wp2_with fail
    go_ret
    exact ⟨rfl, below_then B5.out B5.out.size hb9⟩
end Go.Proofs.YtekokogmnhlchaaGreatDoor
