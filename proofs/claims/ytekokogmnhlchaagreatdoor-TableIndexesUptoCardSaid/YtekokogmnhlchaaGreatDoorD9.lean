import Derived.Test.YtekokogmnhlchaaGreatDoorD5
import Derived.Test.YtekokogmnhlchaaGreatDoorD7
import Derived.Test.YtekokogmnhlchaaGreatDoorD2
import Derived.Test.YtekokogmnhlchaaGreatDoorD4
import Derived.Test.YtekokogmnhlchaaGreatDoorD3
import Derived.Test.YtekokogmnhlchaaGreatDoorD6
import Derived.Deep.CutBlock
set_option linter.unusedSimpArgs false
set_option linter.unusedVariables false
namespace Go.Proofs.YtekokogmnhlchaaGreatDoor
open Go.RowKit
/-- Rows of one's own: a list of one's own, each row of one's own. -/
def OutR (N : Nat) (w : World) (A : Option Addr) (c n : Nat) (L : List (List V)) : Prop := L.length = n ∧ ∃ sl : List Value, w.ownsRow N 33 1 (.slice A n c) n sl ∧
  ∀ (j : Nat) (r : List V), L[j]? = some r → ∃ g cj, sl[j]? = some (.slice (some ⟨g, 0, none⟩) r.length cj) ∧ w.ownsRow N 28 3 (.slice (some ⟨g, 0, none⟩) r.length cj) r.length (rowCells r)
section
variable {N n c : Nat} {w w' : World} {A : Option Addr} {L : List (List V)}
theorem OutR.nil (N : Nat) (w : World) : OutR N w none 0 0 [] := ⟨rfl, [], World.ownsRow_nil _ _ _ _, fun j r h => by simp at h⟩
theorem OutR.below (h : OutR N w A c n L) (hb : Below w.heap.size w w') : OutR N w' A c n L := by
  obtain ⟨h0, sl, h1, h2⟩ := h
  exact ⟨h0, sl, own_below h1 hb, fun j r hj => by obtain ⟨g, cj, h3, h4⟩ := h2 j r hj; exact ⟨g, cj, h3, own_below h4 hb⟩⟩
theorem OutR.mono {M : Nat} (h : OutR N w A c n L) (hM : M ≤ N) : OutR M w A c n L := by
  obtain ⟨h0, sl, h1, h2⟩ := h
  exact ⟨h0, sl, own_mono h1 hM, fun j r hj => by obtain ⟨g, cj, h3, h4⟩ := h2 j r hj; exact ⟨g, cj, h3, own_mono h4 hM⟩⟩
theorem own_away {e k m : Nat} {v : Value} {xs : List Value} (h : w.ownsRow N e k v m xs) {b : Nat} (hb : b < N) : v.ownBlock = none ∨ v.ownBlock ≠ some b := by
  refine .inr fun he => ?_
  have := (own_bnd h b he).1
  omega
theorem OutR.kept (h : OutR N w A c n L) {b : Nat} (hg : w.grownBy w' (some b)) (hb : b < N) : OutR N w' A c n L := by
  obtain ⟨h0, sl, h1, h2⟩ := h
  exact ⟨h0, sl, h1.kept hg (own_away h1 hb), fun j r hj => by obtain ⟨g, cj, h3, h4⟩ := h2 j r hj; exact ⟨g, cj, h3, h4.kept hg (own_away h4 hb)⟩⟩
theorem own_diff {N' e e' k k' m m' : Nat} {v u : Value} {xs ys : List Value} (h : w.ownsRow N e k v m xs) (h' : w.ownsRow N' e' k' u m' ys) (hne : e ≠ e') : v.ownBlock = none ∨ v.ownBlock ≠ u.ownBlock := by
  rcases h.2 with ⟨h0, _⟩ | ⟨g, cap, cur, h0, h1, h2, _⟩
  · rw [h0]; exact .inl rfl
  · right
    intro he
    rcases h'.2 with ⟨k0, _⟩ | ⟨g', cap', cur', k0, k1, k2, _⟩
    · rw [h0, k0] at he; cases he
    · rw [h0, k0] at he
      have hg : g = g' := by simpa [Value.ownBlock] using he
      subst hg
      rw [h2] at k2
      injection k2 with k2
      injection k2 with _ k3 _
      exact hne k3
/-- Rows of one's own keep, where another list grows. -/
theorem OutR.other {N' m' : Nat} {v : Value} {ys : List Value} (h : OutR N w A c n L) (h' : w.ownsRow N' 33 1 v m' ys) (hd : (Value.slice A n c).ownBlock = none ∨ (Value.slice A n c).ownBlock ≠ v.ownBlock) (hg : w.grownBy w' v.ownBlock) : OutR N w' A c n L := by
  obtain ⟨h0, sl, h1, h2⟩ := h
  exact ⟨h0, sl, h1.kept hg hd, fun j r hj => by obtain ⟨g, cj, h3, h4⟩ := h2 j r hj; exact ⟨g, cj, h3, h4.kept hg (own_diff h4 h' (by decide))⟩⟩
theorem OutR.push {sl : List Value} {A5 : Option Addr} {c5 g cj : Nat} {w5 : World} {r : List V} (h0 : L.length = n) (h1 : w.ownsRow N 33 1 (.slice A n c) n sl)
    (h2 : ∀ (j : Nat) (r : List V), L[j]? = some r → ∃ g cj, sl[j]? = some (.slice (some ⟨g, 0, none⟩) r.length cj) ∧ w.ownsRow N 28 3 (.slice (some ⟨g, 0, none⟩) r.length cj) r.length (rowCells r))
    (hr : w.ownsRow N 28 3 (.slice (some ⟨g, 0, none⟩) r.length cj) r.length (rowCells r))
    (h5 : w5.ownsRow N 33 1 (.slice A5 (n + 1) c5) (n + 1) (sl ++ [.slice (some ⟨g, 0, none⟩) r.length cj])) (hg : w.grownBy w5 (Value.slice A n c).ownBlock) : OutR N w5 A5 c5 (n + 1) (L ++ [r]) := by
  refine ⟨by rw [List.length_append, h0]; rfl, _, h5, fun j q hj => ?_⟩
  have hsl : sl.length = n := by have := own_len h1; omega
  by_cases hjn : j < n
  · rw [List.getElem?_append_left (by omega)] at hj
    obtain ⟨g', cj', h3, h4⟩ := h2 j q hj
    exact ⟨g', cj', by rw [List.getElem?_append_left (by omega)]; exact h3, h4.kept hg (own_diff h4 h1 (by decide))⟩
  · have hje : j = n := by
      have := (List.getElem?_eq_some_iff.1 hj).1
      rw [List.length_append] at this
      simp at this
      omega
    subst hje
    rw [List.getElem?_append_right (by omega)] at hj
    simp [h0] at hj
    subst hj
    exact ⟨g, cj, by rw [List.getElem?_append_right (by omega), hsl]; simp, hr.kept hg (own_diff hr h1 (by decide))⟩
theorem OutR.at_ (h : OutR N w A c n L) (j : Nat) (hj : j < n) {r : List V} (hr : L[j]? = some r) (hp : 0 < r.length) :
    ∃ b g cj, A = some ⟨b, 0, none⟩ ∧ C w b j (.slice (some ⟨g, 0, none⟩) r.length cj) ∧ r.length ≤ cj ∧ w.ownsRow N 28 3 (.slice (some ⟨g, 0, none⟩) r.length cj) r.length (rowCells r) ∧
      C w g 0 (.int .i64 (col r 0).k) ∧ C w g 1 (.int .i64 (col r 0).n) ∧ C w g 2 (.string (col r 0).s) := by
  obtain ⟨h0, sl, h1, h2⟩ := h
  obtain ⟨g, cj, h3, h4⟩ := h2 j r hr
  obtain ⟨b, rfl, _, _⟩ := own_ptr h1 (by omega)
  obtain ⟨A', c', he, hc, _⟩ := own_form h4
  injection he with _ _ he
  subst he
  have hrl : 3 ≤ (rowCells r).length := by have := own_len h4; omega
  have e0 : (rowCells r)[0]? = some (.int .i64 (col r 0).k) := by cases r with | nil => simp at hp | cons v t => rfl
  have e1 : (rowCells r)[1]? = some (.int .i64 (col r 0).n) := by cases r with | nil => simp at hp | cons v t => rfl
  have e2 : (rowCells r)[2]? = some (.string (col r 0).s) := by cases r with | nil => simp at hp | cons v t => rfl
  exact ⟨b, g, cj, rfl, (h1.cellAt j (by omega)).trans h3, hc, h4, (h4.cellAt 0 (by omega)).trans e0, (h4.cellAt 1 (by omega)).trans e1, (h4.cellAt 2 (by omega)).trans e2⟩
theorem Rd.one {g : Nat} {v : V} (h0 : C w g 0 (.int .i64 v.k)) (h1 : C w g 1 (.int .i64 v.n)) (h2 : C w g 2 (.string v.s)) : Rd w 3 (some ⟨g, 0, none⟩) 1 (rowCells [v]) := by
  refine ⟨rfl, .inr ⟨g, 0, rfl, fun j hj => ?_⟩⟩
  have hj3 : j < 3 := hj
  rw [Nat.zero_add]
  match j, hj3 with
  | 0, _ => exact h0
  | 1, _ => exact h1
  | 2, _ => exact h2
theorem RowsAt.out {base : Nat} (h : RowsAt base w A n L) (hp : ∀ r ∈ L, 0 < r.length) : ∃ cl, OutR base w A cl n L := by
  obtain ⟨sl, ⟨_, cl, h1⟩, h2, h3⟩ := h
  refine ⟨cl, h2, sl, h1, fun j r hj => ?_⟩
  obtain ⟨Aj, cj, h4, h5⟩ := h3 j r hj
  obtain ⟨g, rfl, _⟩ := own_ptr h5 (hp r (List.mem_of_getElem? hj))
  exact ⟨g, cj, h4, h5⟩
end
/-- Where the next look begins. -/
def loOf (R : List (List V)) (m : Nat) : V := if m = 0 then nothing else col (R.getD (m - 1) []) 0
def qk (m k : Nat) : Nat := max m (m - 1 + k)
theorem qk_zero (m : Nat) : qk m 0 = m := by unfold qk; omega
theorem qk_one {m : Nat} (h : 0 < m) : qk m 1 = m := by unfold qk; omega
theorem qk_next {m k : Nat} (h : ¬ (0 < m ∧ k = 0)) : qk m k = m - 1 + k ∧ qk m (k + 1) = qk m k + 1 := by unfold qk; omega
theorem grown_set (w : World) (a : Addr) (v : Value) : w.grownBy (w.setCell a v) (some a.block) :=
  ⟨rfl, rfl, rfl, by simp [World.setCell], fun b _ hb => Below.heap_setCell w a v b (fun e => hb (by rw [e]))⟩
theorem OutR.len {N n c : Nat} {w : World} {A : Option Addr} {L : List (List V)} (h : OutR N w A c n L) : L.length = n := h.1
theorem OutR.apart {N n c m c' : Nat} {w w' : World} {A A' : Option Addr} {L L' : List (List V)} (h : OutR N w A c n L) (h' : OutR w.heap.size w' A' c' m L') : (Value.slice A' m c').ownBlock = none ∨ (Value.slice A' m c').ownBlock ≠ (Value.slice A n c).ownBlock := by
  obtain ⟨_, sl, h1, _⟩ := h
  obtain ⟨_, sl', h2, _⟩ := h'
  cases he : (Value.slice A' m c').ownBlock with
  | none => exact .inl rfl
  | some g =>
    right
    intro e
    have a1 := (own_bnd h2 g he).1
    have a2 := (own_bnd h1 g e.symm).2
    omega
theorem cmpVs_ne {a b : V} (h : cmpVs [a] [b] = -1) : a ≠ b := fun e => by
  subst e
  rw [cmpVs, if_pos (cmpV_refl a)] at h
  simp [cmpVs] at h
section
variable {B0 db sb n : Nat} {w0 w : World} {D : List Tb}
theorem walk_scan (st : St B0 w0 w db sb n D) (hn : n ≤ 50000) {nm : ByteArray} (hnm : nm.size ≤ 9223372036854775807) {i : Nat} {T : Tb} (hf : findT D nm 0 = some (i, T)) {R : List (List V)} (hR : WalkL T i R) (m : Nat) (hm : m ≤ R.length) :
    Calls Tryz.prog 20 #[.pointer (some ⟨db, 0, none⟩), .string nm, .int .i64 0, .agg #[.int .i64 (loOf R m).k, .int .i64 (loOf R m).n, .string (loOf R m).s], .agg #[.int .i64 0, .int .i64 0, .string ⟨#[]⟩], .int .i64 4] w
      fun e w' => ∃ A c cl, e = .returned (.tuple #[.slice A (min (R.length - (m - 1)) 4) c, .int .i64 0]) ∧ OutR w.heap.size w' A cl (min (R.length - (m - 1)) 4) ((R.drop (m - 1)).take 4) ∧ Below w.heap.size w w' := by
  have hT := (findT_at hf).1
  have ho := st.ok
  have hlo : okV (loOf R m) ∧ rightV (loOf R m) = 0 := by
    unfold loOf
    split
    · exact ⟨okV_nothing, okV_nothing.1⟩
    · have hlt : m - 1 < R.length := by omega
      rw [List.getD_eq_getElem?_getD, List.getElem?_eq_getElem hlt]
      have := ho.val hT ((hR.mem _).1 (List.getElem_mem hlt)) 0
      exact ⟨this, this.1⟩
  have hsc := st.scan nm 0 (loOf R m) nothing 4 hn hnm hlo.1.2.1 hlo.1.2.2 ⟨by decide, by decide⟩ (by decide)
  refine hsc.mono fun e w' hp => ?_
  obtain ⟨h1, h2⟩ := hp
  rw [hf] at h1
  simp only at h1
  have hE : scanE T 0 (loOf R m) nothing 4 = 0 := by
    rw [scanE, if_pos (.inl rfl), if_neg (by rw [hlo.2]; decide), if_neg (by decide)]
  rw [if_pos hE] at h1
  obtain ⟨S, A, c, hS, he, hrows⟩ := h1
  have hSR : S = R.drop (m - 1) := by
    by_cases h0 : m = 0
    · subst h0
      have e0 : loOf R 0 = nothing := rfl
      rw [e0] at hS
      exact (walk_first ho hT hS).ext hR fun r => Iff.rfl
    · have hlt : m - 1 < R.length := by omega
      have e1 : loOf R m = col R[m - 1] 0 := by rw [loOf, if_neg h0, List.getD_eq_getElem?_getD, List.getElem?_eq_getElem hlt]; rfl
      rw [e1] at hS
      exact walk_rest ho hT hR (m - 1) hlt hS
  subst hSR
  rw [List.length_drop] at he hrows
  obtain ⟨cl, ho2⟩ := RowsAt.out hrows (fun r hr => by
    have h3 := (hR.mem r).1 (List.mem_of_mem_drop (List.mem_of_mem_take hr))
    exact (ho.fit i T hT r h3).pos (ho.right i T hT))
  exact ⟨A, c, cl, he, ho2, h2⟩
set_option maxHeartbeats 16000000 in
set_option maxRecDepth 1000000 in
/-- law15.walk: a table's rows, in the order of their keys. -/
theorem walk_ok (st : St B0 w0 w db sb n D) (hn : n ≤ 50000) {nm : ByteArray} (hnm : nm.size ≤ 9223372036854775807) {i : Nat} {T : Tb} (hf : findT D nm 0 = some (i, T)) {R : List (List V)} (hR : WalkL T i R) :
    Calls Tryz.prog 26 #[.pointer (some ⟨db, 0, none⟩), .string nm, .int .i64 0] w fun e w' => ∃ A c, e = .returned (.tuple #[.slice A R.length c, .bool true]) ∧ OutR w.heap.size w' A c R.length R ∧ Below w.heap.size w w' := by
  have hT := (findT_at hf).1
  have ho := st.ok
  have hRl : R.length ≤ 64 := by rw [hR.len ho hT]; exact ho.n64 i T hT
  have hpos : ∀ (j : Nat) (r : List V), R[j]? = some r → 0 < r.length ∧ okV (col r 0) := fun j r hr => by
    have hm := (hR.mem r).1 (List.mem_of_getElem? hr)
    exact ⟨(ho.fit i T hT r hm).pos (ho.right i T hT), ho.val hT hm 0⟩
  have hlt : ∀ (a b : Nat) (r u : List V), R[a]? = some r → R[b]? = some u → a < b → cmpVs [col r 0] [col u 0] = -1 := fun a b r u hr hu hab => by
    obtain ⟨ha, rfl⟩ := List.getElem?_eq_some_iff.1 hr
    obtain ⟨hb, rfl⟩ := List.getElem?_eq_some_iff.1 hu
    exact hR.lt ho hT hb hab
  have hsc : ∀ (W : World), Below w.heap.size w W → ∀ m, m ≤ R.length → Calls Tryz.prog 20 _ W _ := fun W hW m hm => walk_scan (st.below hW) hn hnm hf hR m hm
  obtain ⟨rn, hrn⟩ : ∃ rn, R.length = rn := ⟨_, rfl⟩
  rw [hrn] at hsc hRl ⊢
  have Hsc := hide hsc
  have Hpos := hide hpos
  have Hlt := hide hlt
  have Hrn := hide hrn
  clear hsc hpos hlt hT ho hR hf hn st
  have hal := (Below.refl w.heap.size w).alloc (Nat.le_refl _) (.cells #[.int .i64 0, .int .i64 0, .string ⟨#[]⟩] 28)
  have hnb := Blk.new w #[.int .i64 0, .int .i64 0, .string ⟨#[]⟩] 28
  obtain ⟨lb, hlb⟩ : ∃ lb, w.heap.size = lb := ⟨_, rfl⟩
  go_enter Tryz.func26, Tryz.ntmps26
  go_wp2_with fail
  rw [hlb] at hal hnb Hsc
  have Hlb := hide hlb
  have Hal := hide hal
  have Hnb := hide hnb
  clear hlb hal hnb
  go_loopw [8, 10] (fun ov iv wr => ∃ (m q : Nat) (A : Option Addr) (c : Nat), m ≤ rn ∧ q ≤ m ∧ q ≤ 70 ∧ iv = .int .i64 q ∧ ov = .slice A m c ∧ Hid (OutR (lb + 1) wr A c m (R.take m)) ∧ Hid (Blk wr lb #[.int .i64 (loOf R m).k, .int .i64 (loOf R m).n, .string (loOf R m).s] 28) ∧ Hid (Below lb w wr)) (fun _ iv _ => 70 - (intOf iv).toNat)
  case atStart => exact ⟨0, 0, none, 0, Nat.zero_le _, Nat.le_refl _, by omega, rfl, rfl, hide (OutR.nil _ _), Hnb, Hal⟩
  case round =>
    obtain ⟨m, q, A, c, hm, hqm, hq70, rfl, rfl, HO, HL, HB⟩ := hrel
    have hq : q < 70 := by omega
    have hqi : (q : Int) < 70 := by omega
    have hscan := Hsc.out wr HB.out m hm
    obtain ⟨nb, hnb⟩ : ∃ nb, min (rn - (m - 1)) 4 = nb := ⟨_, rfl⟩
    obtain ⟨Bt, hBt⟩ : ∃ Bt, (R.drop (m - 1)).take 4 = Bt := ⟨_, rfl⟩
    rw [hnb, hBt] at hscan
    have hBg : ∀ k, k < nb → Bt[k]? = R[m - 1 + k]? := fun k hk => by rw [← hBt, List.getElem?_take, if_pos (by omega), List.getElem?_drop]
    obtain ⟨lv, hlv⟩ : ∃ lv, loOf R m = lv := ⟨_, rfl⟩
    rw [hlv] at HL hscan
    have c0 := HL.out.c 0 (v := .int .i64 lv.k) rfl
    have c1 := HL.out.c 1 (v := .int .i64 lv.n) rfl
    have c2 := HL.out.c 2 (v := .string lv.s) rfl
    obtain ⟨z0, hz0⟩ : ∃ z, wr.heap.size = z := ⟨_, rfl⟩
    have hlz : lb < z0 := hz0 ▸ HL.out.lt
    have Hscan := hide hscan
    have HBg := hide hBg
    have Hnbe := hide hnb
    clear hscan hBt hBg hlv hnb
    go_wp2_with fail
    refine Hscan.out.mono ?_
    rintro e w2 ⟨A2, c2', cl, rfl, hl2, hb2⟩
    have HD2 := hide (HO.out.apart hl2)
    have HO2 := hide (HO.out.below hb2)
    have HL2 := hide (HL.out.below hb2)
    have HB2 := hide (below_then HB.out (by omega) hb2)
    rw [hz0] at hl2
    have HR2 := hide hl2
    clear hl2 hb2 HO HL HB Hscan hz0 c0 c1 c2
    go_wp2_with fail
    go_loopw [8, 14] (fun ov kv wz => ∃ (k : Nat) (A5 : Option Addr) (c5 : Nat), k ≤ nb ∧ kv = .int .i64 k ∧ ov = .slice A5 (qk m k) c5 ∧ Hid (OutR (lb + 1) wz A5 c5 (qk m k) (R.take (qk m k))) ∧ Hid (OutR z0 wz A2 cl nb Bt) ∧ Hid ((Value.slice A2 nb cl).ownBlock = none ∨ (Value.slice A2 nb cl).ownBlock ≠ (Value.slice A5 (qk m k) c5).ownBlock) ∧ Hid (Blk wz lb #[.int .i64 lv.k, .int .i64 lv.n, .string lv.s] 28) ∧ Hid (Below lb w wz)) (fun _ kv _ => nb - (intOf kv).toNat)
    case atStart => exact ⟨0, A, c, Nat.zero_le _, rfl, by rw [qk_zero], hide (by rw [qk_zero]; exact HO2.out), HR2, hide (by rw [qk_zero]; exact HD2.out), HL2, HB2⟩
    case round =>
      clear HO2 HR2 HD2 HL2 HB2
      obtain ⟨k, A5, c5, hk, rfl, rfl, HO5, HR5, HD5, HL5, HB5⟩ := hrel
      by_cases hlt : k < nb
      · have hidx : m - 1 + k < rn := by have := Hnbe.out; omega
        obtain ⟨r, hr⟩ : ∃ r, R[m - 1 + k]? = some r := ⟨_, List.getElem?_eq_getElem (by rw [Hrn.out]; exact hidx)⟩
        have hBr : Bt[k]? = some r := (HBg.out k hlt).trans hr
        obtain ⟨hrp, hrok⟩ := Hpos.out _ r hr
        obtain ⟨b2, g2, j2, hA2, x0, hj2, xo, x1, x2, x3⟩ := HR5.out.at_ k hlt hBr hrp
        subst hA2
        have hki : (k : Int) < (nb : Int) := by omega
        by_cases hE : 0 < m ∧ k = 0
        · obtain ⟨hm0, rfl⟩ := hE
          rw [qk_zero] at HO5 HD5 ⊢
          obtain ⟨m1, rfl⟩ : ∃ m1, m = m1 + 1 := ⟨m - 1, by omega⟩
          obtain ⟨b5, g5, j5, hA5, y0, hj5, yo, y1, y2, y3⟩ := HO5.out.at_ m1 (by omega) (r := r) (by rw [List.getElem?_take, if_pos (by omega)]; simpa using hr) hrp
          subst hA5
          have hmi : (0 : Int) < ((m1 + 1 : Nat) : Int) := by omega
          obtain ⟨⟨vk, vn, vs⟩, hv⟩ : ∃ v, col r 0 = v := ⟨_, rfl⟩
          rw [hv] at x1 x2 x3 y1 y2 y3
          dsimp only at x1 x2 x3 y1 y2 y3
          obtain ⟨rl, hrl⟩ : ∃ rl, r.length = rl := ⟨_, rfl⟩
          rw [hrl] at x0 y0 hrp
          have Hfin : ∀ (nq : Nat), Hid (OutR (lb + 1) (wr.drewN nq) (some ⟨b5, 0, none⟩) c5 (m1 + 1) (R.take (m1 + 1))) ∧ Hid (OutR z0 (wr.drewN nq) (some ⟨b2, 0, none⟩) cl nb Bt) ∧ Hid (Blk (wr.drewN nq) lb #[.int .i64 lv.k, .int .i64 lv.n, .string lv.s] 28) ∧ Hid (Below lb w (wr.drewN nq)) := fun nq =>
            ⟨hide (HO5.out.below (below_drewN (Below.refl _ _) nq)), hide (HR5.out.below (below_drewN (Below.refl _ _) nq)), hide (HL5.out.drewN nq), hide (below_drewN HB5.out nq)⟩
          have Hfin' := hide Hfin
          clear hv hrl xo yo Hfin hr hBr hrok HO5 HR5 HL5 HB5
          go_wp2_with fail
          go_quiet (fail)
          all_goals
            go_wp2_with fail
            exact ⟨⟨1, some ⟨b5, 0, none⟩, c5, by omega, by go_num, by rw [qk_one (by omega)], by rw [qk_one (by omega)]; exact (Hfin'.out _).1, (Hfin'.out _).2.1, by rw [qk_one (by omega)]; exact HD5, (Hfin'.out _).2.2.1, (Hfin'.out _).2.2.2⟩, by simp [intOf]; omega⟩
        · obtain ⟨hqq, hqn⟩ := qk_next hE
          obtain ⟨qq, hqd⟩ : ∃ qq, qk m k = qq := ⟨_, rfl⟩
          rw [hqd] at hqq hqn HO5 HD5 ⊢
          have hqr : R[qq]? = some r := by rw [hqq]; exact hr
          have hqrn : qq < rn := by omega
          obtain ⟨va, hV⟩ : ∃ va, col r 0 = va := ⟨_, rfl⟩
          rw [hV] at x1 x2 x3 hrok
          obtain ⟨rl, hrl⟩ : ∃ rl, r.length = rl := ⟨_, rfl⟩
          have x0' := x0
          rw [hrl] at x0' hrp hj2
          have Hxo := hide xo
          have Hlx := hide (fun (p : Nat) (u : List V) (hu : R[p]? = some u) (hp : p < qq) => (hV ▸ Hlt.out p qq u r hu hqr hp : cmpVs [col u 0] [va] = -1))
          have Hqr := hide hqr
          have Hqn := hide hqn
          have Hrl := hide hrl
          have Hx0 := hide x0
          have Hv := hide hrok
          have Hqe := hide (hqq : qq = m - 1 + k)
          clear xo hr hBr hqr hqn hV hrl x0 hrok hqq hqd
          go_upto_region 13 with fail
          go_cut [56] (fun t wx => t = .bool false ∧ Hid (Below wr.heap.size wr wx))
          case first =>
            by_cases hm0 : 0 < m
            · obtain ⟨m1, rfl⟩ : ∃ m1, m = m1 + 1 := ⟨m - 1, by omega⟩
              have hm1q : m1 < qq := by have := Hqe.out; omega
              obtain ⟨u, hu⟩ : ∃ u, R[m1]? = some u := ⟨_, List.getElem?_eq_getElem (by rw [Hrn.out]; omega)⟩
              obtain ⟨hup, huok⟩ := Hpos.out _ u hu
              obtain ⟨b5, g5, j5, hA5, y0, hj5, yo, y1, y2, y3⟩ := HO5.out.at_ m1 (by omega) (r := u) (by rw [List.getElem?_take, if_pos (by omega)]; exact hu) hup
              subst hA5
              have hne := cmpVs_ne (Hlx.out m1 u hu (by omega))
              have hmi : (0 : Int) < ((m1 + 1 : Nat) : Int) := by omega
              obtain ⟨ua, hU⟩ : ∃ ua, col u 0 = ua := ⟨_, rfl⟩
              rw [hU] at y1 y2 y3 hne
              obtain ⟨ul, hul⟩ : ∃ ul, u.length = ul := ⟨_, rfl⟩
              rw [hul] at y0 hup
              obtain ⟨vk, vn, vs⟩ := va
              obtain ⟨uk, un, us⟩ := ua
              dsimp only at x1 x2 x3 y1 y2 y3
              have hqi : (m1 : Int) < (qq : Int) := by omega
              have h3 : vk ≠ uk ∨ (vk = uk ∧ vn ≠ un) ∨ (vk = uk ∧ vn = un ∧ (vs.toList == us.toList) = false) := by
                by_cases e1 : vk = uk
                · by_cases e2 : vn = un
                  · right; right
                    refine ⟨e1, e2, ?_⟩
                    rw [beq_eq_false_iff_ne]
                    intro h
                    rw [ByteArray.toList_eq, ByteArray.toList_eq] at h
                    exact hne (V.ext_ e1.symm e2.symm (bytes_inj h).symm)
                  · exact .inr (.inl ⟨e1, e2⟩)
                · exact .inl e1
              clear hne hU hul yo hu huok Hxo Hx0 Hv HO5 HR5 HL5 HB5 Hlx
              rcases h3 with h3 | ⟨rfl, h3⟩ | ⟨rfl, rfl, h3⟩
              all_goals
                go_wp2_with fail
                go_quiet (fail)
                all_goals
                  go_wp2_with fail
                  go_meet
                  exact ⟨rfl, hide (below_drewN (Below.refl _ _) _)⟩
            · have hm00 : m = 0 := by omega
              subst hm00
              clear x0' x1 x2 x3 Hxo Hx0 Hv HO5 HR5 HL5 HB5 Hlx
              go_wp2_with fail
              go_quiet (fail)
              all_goals
                go_wp2_with fail
                go_meet
                exact ⟨rfl, hide (below_drewN (Below.refl _ _) _)⟩
          case rest =>
            obtain ⟨rfl, HX⟩ := hcut
            have x0a := x0'.below HX.out
            have x1a := x1.below HX.out
            have x2a := x2.below HX.out
            have x3a := x3.below HX.out
            clear x0' x1 x2 x3
            have HOa := hide (HO5.out.below HX.out)
            have HRa := hide (HR5.out.below HX.out)
            have HLa := hide (HL5.out.below HX.out)
            have Hxa := hide (own_below Hxo.out HX.out)
            have HBa := hide (below_then HB5.out (by have := HL5.out.lt; omega) HX.out)
            have Hx0a := hide (Hx0.out.below HX.out)
            clear HO5 HR5 HL5 HB5 Hxo HX Hx0
            obtain ⟨W4, hW4⟩ : ∃ W, W = wc := ⟨_, rfl⟩
            subst hW4
            go_upto_region 14 with fail
            go_cut [75] (fun t wx => t = .bool false ∧ Hid (Below W4.heap.size W4 wx))
            case first =>
              by_cases hq0 : qq = 0
              · have hq00 : ¬ (0 : Int) < (qq : Int) := by omega
                have hq02 : ¬ 0 < qq := by omega
                have hq03 : decide ((0 : Int) < (qq : Int)) = false := by simpa using hq00
                have Hq0 := hide hq0
                clear hq0
                clear x0a x1a x2a x3a Hxa Hv HOa HRa HLa HBa Hlx
                go_wp2_with fail
                go_quiet (fail)
                all_goals
                  go_wp2_with fail
                  go_meet
                  exact ⟨rfl, hide (below_drewN (Below.refl _ _) _)⟩
              · obtain ⟨q1, rfl⟩ : ∃ q1, qq = q1 + 1 := ⟨qq - 1, by omega⟩
                have hq01 : (0 : Int) < (q1 : Int) + 1 := by omega
                have hwr1 : IntKind.i64.wrap (q1 : Int) = q1 := by rw [IntKind.wrap_i64]; omega
                have hlt1 : (q1 : Int) < (q1 : Int) + 1 := by omega
                obtain ⟨u, hu⟩ : ∃ u, R[q1]? = some u := ⟨_, List.getElem?_eq_getElem (by rw [Hrn.out]; omega)⟩
                obtain ⟨hup, huok⟩ := Hpos.out _ u hu
                obtain ⟨b5, g5, j5, hA5, y0, hj5, yo, y1, y2, y3⟩ := HOa.out.at_ q1 (by omega) (r := u) (by rw [List.getElem?_take, if_pos (by omega)]; exact hu) hup
                subst hA5
                have hcmp := Hlx.out q1 u hu (by omega)
                have hcon : ∀ W, Below W4.heap.size W4 W → Calls Tryz.prog 31 #[.slice (some ⟨g5, 0, none⟩) 1 j5, .slice (some ⟨g2, 0, none⟩) 1 j2] W fun e w' => e = .returned (.int .i64 (-1)) ∧ Below W.heap.size W w' := fun W hW => by
                  rw [← hcmp]
                  exact compare_any _ _ 1 j5 1 j2 [col u 0] [va] W rfl rfl (Rd.one (y1.below hW) (y2.below hW) (y3.below hW)) (Rd.one (x1a.below hW) (x2a.below hW) (x3a.below hW)) (by omega) (by simpa using huok) (by simpa using Hv.out)
                obtain ⟨ul, hul⟩ : ∃ ul, u.length = ul := ⟨_, rfl⟩
                rw [hul] at y0 hup hj5
                have Hcon := hide hcon
                have k1 : 0 < j5 := by omega
                have k2 : 0 < j2 := by omega
                have k3 : (1 : Int) ≤ (j5 : Int) := by omega
                have k4 : (1 : Int) ≤ (j2 : Int) := by omega
                clear hcon hcmp hul yo hu huok y1 y2 y3 x1a x2a x3a Hxa Hv HOa HRa HLa HBa Hlx
                go_wp2_with fail
                go_region_held3 (fun w' => w'.cell? ⟨b5, q1, none⟩ = some (.slice (some ⟨g5, 0, none⟩) ul j5) ∧ w'.cell? ⟨b2, k, none⟩ = some (.slice (some ⟨g2, 0, none⟩) rl j2))
                  ((first | (go_keep; done) | exact ⟨y0.below (undrewd hb7), x0a.below (undrewd hb7)⟩))
                  ((go_at_call 31; refine (Hcon.out _ ((Below.refl _ _).drew)).mono ?_; rintro e w7 ⟨rfl, hb7⟩))
                all_goals
                  go_wp2_with fail
                  go_meet
                  exact ⟨rfl, hide (undrewd hb7)⟩
            case rest =>
              obtain ⟨rfl, HX⟩ := hcut
              have x0b := x0a.below HX.out
              clear x0a x1a x2a x3a Hx0a Hlx Hv
              have HOb := hide (HOa.out.below HX.out)
              have HRb := hide (HRa.out.below HX.out)
              have HLb := hide (HLa.out.below HX.out)
              have Hxb := hide (own_below Hxa.out HX.out)
              have HBb := hide (below_then HBa.out (by have := HLa.out.lt; omega) HX.out)
              clear HOa HRa HLa HBa Hxa HX
              obtain ⟨W5, hW5⟩ : ∃ W, W = wc := ⟨_, rfl⟩
              subst hW5
              obtain ⟨hOl, sl, hsl1, hsl2⟩ := HOb.out
              have Hsl1 := hide hsl1
              have Hsl2 := hide hsl2
              have hz6 : lb + 1 ≤ W5.heap.size := HLb.out.lt
              have hq5 : qq + 1 ≤ 4294967296 := by omega
              clear hsl1 hsl2 HOb
              go_wp2_with (first
                | (at_builtin; refine wp_lit2 rowsT rfl rfl Hsl1.out rfl rfl (by simp) (by rfl) (by simp [Value.oneCell']) hq5 (by omega) hz6 ?_; intro A6 c6 w6 hown6 hb6 hg6 hat6)
                | fail)
              have hrl := Hrl.out
              subst hrl
              have hpush := OutR.push hOl Hsl1.out Hsl2.out (own_mono Hxb.out (by omega)) hown6 hg6
              have htk : R.take (qq + 1) = R.take qq ++ [r] := by rw [List.take_add_one, Hqr.out]; rfl
              rw [← htk] at hpush
              have hoth := HRb.out.other Hsl1.out HD5.out hg6
              have hdis : (Value.slice (some ⟨b2, 0, none⟩) nb cl).ownBlock = none ∨ (Value.slice (some ⟨b2, 0, none⟩) nb cl).ownBlock ≠ (Value.slice A6 (qq + 1) c6).ownBlock := by
                rcases hat6 with h | h
                · rw [h]; exact HD5.out
                · rw [h]
                  right
                  intro he
                  obtain ⟨_, sl', h1, _⟩ := HRb.out
                  have := (own_bnd h1 _ he).2
                  omega
              have hlb6 : some lb ≠ (Value.slice A5 qq c5).ownBlock := fun he => by
                have := (own_bnd Hsl1.out lb he.symm).1
                omega
              exact ⟨⟨k + 1, A6, c6, hlt, by go_num, by rw [Hqn.out], hide (by rw [Hqn.out]; exact hpush), hide hoth, hide (by rw [Hqn.out]; exact hdis), hide (HLb.out.far hg6 hlb6), hide (HBb.out.trans (hb6.mono (by omega)))⟩, by simp [intOf]; omega⟩
      · have hke : k = nb := by omega
        subst hke
        have hki : ¬ (k : Int) < (k : Int) := by omega
        obtain ⟨qq, hqd⟩ : ∃ qq, qk m k = qq := ⟨_, rfl⟩
        rw [hqd] at HO5 HD5 ⊢
        by_cases hd : qq = m
        · subst hd
          have hqe : qq = rn := by
            have h1 := Hnbe.out
            unfold qk at hqd
            omega
          subst hqe
          have hl := Hrn.out
          have HO6 := hide (by have := HO5.out.mono (M := lb) (by omega); rw [← hl, List.take_length, hl] at this; exact this : OutR lb wr A5 c5 qq R)
          clear HO5 HR5 HD5 HL5 hqd
          go_wp2_with fail
          go_ret2
          exact ⟨A5, c5, rfl, by first | exact HO6.out | (rw [Hlb.out]; exact HO6.out), by first | exact HB5.out | (rw [Hlb.out]; exact HB5.out)⟩
        · have hbig : m < qq ∧ qq ≤ rn := by
            have h1 := Hnbe.out
            unfold qk at hqd
            omega
          obtain ⟨q1, rfl⟩ : ∃ q1, qq = q1 + 1 := ⟨qq - 1, by omega⟩
          obtain ⟨u, hu⟩ : ∃ u, R[q1]? = some u := ⟨_, List.getElem?_eq_getElem (by rw [Hrn.out]; omega)⟩
          obtain ⟨hup, huok⟩ := Hpos.out _ u hu
          obtain ⟨b5, g5, j5, hA5, y0, hj5, yo, y1, y2, y3⟩ := HO5.out.at_ q1 (by omega) (r := u) (by rw [List.getElem?_take, if_pos (by omega)]; exact hu) hup
          subst hA5
          have hlo : loOf R (q1 + 1) = col u 0 := by
            rw [loOf, if_neg (by omega), List.getD_eq_getElem?_getD, show q1 + 1 - 1 = q1 by omega, hu]; rfl
          obtain ⟨ua, hU⟩ : ∃ ua, col u 0 = ua := ⟨_, rfl⟩
          rw [hU] at y1 y2 y3 hlo
          obtain ⟨ul, hul⟩ : ∃ ul, u.length = ul := ⟨_, rfl⟩
          rw [hul] at y0 hup
          have l0 := HL5.out.c 0 (v := .int .i64 lv.k) rfl
          have l1 := HL5.out.c 1 (v := .int .i64 lv.n) rfl
          have l2 := HL5.out.c 2 (v := .string lv.s) rfl
          have f0 := HL5.out.fr 0
          have f1 := HL5.out.fr 1
          have f2 := HL5.out.fr 2
          have hmq : ((q1 : Int) + 1 == (m : Int)) = false := by simp; omega
          have Hlo := hide hlo
          obtain ⟨uk, un, us⟩ := ua
          dsimp only at y1 y2 y3
          clear hU hul yo hu huok hlo HR5 HD5 hqd
          go_wp2_with fail
          refine ⟨⟨q1 + 1, q + 1, some ⟨b5, 0, none⟩, c5, hbig.2, by omega, by omega, by go_num, rfl, hide (((HO5.out.kept (grown_set _ _ _) (by show lb < lb + 1; omega)).kept (grown_set _ _ _) (by show lb < lb + 1; omega)).kept (grown_set _ _ _) (by show lb < lb + 1; omega)), hide ?_, hide (((HB5.out.setCell (Nat.le_refl _) _).setCell (Nat.le_refl _) _).setCell (Nat.le_refl _) _)⟩, by simp [intOf]; omega⟩
          rw [Hlo.out]
          exact ((HL5.out.set 0 _).set 1 _).set 2 _
end
end Go.Proofs.YtekokogmnhlchaaGreatDoor
namespace Go.Proofs.YtekokogmnhlchaaGreatDoor
open Go.RowKit
section
variable {B0 db sb n : Nat} {w0 w w' : World} {D : List Tb}
theorem St.names (st : St B0 w0 w db sb n D) (hn : n ≤ 50000) : Calls Tryz.prog 25 #[.pointer (some ⟨db, 0, none⟩)] w (NamesPost D w) := by
  obtain ⟨L, hd, hl⟩ := st.ex
  exact names_any B0 db sb L D w hd (by omega)
theorem OutR.upd {N c m : Nat} {A : Option Addr} {R : List (List V)} (h : OutR N w A c m R) (st : St B0 w0 w db sb n D) (hu : Upd db w w') : OutR N w' A c m R := by
  obtain ⟨h0, sl, h1, h2⟩ := h
  exact ⟨h0, sl, own_upd st h1 (by decide) (by decide) hu, fun j r hj => by obtain ⟨g, cj, h3, h4⟩ := h2 j r hj; exact ⟨g, cj, h3, own_upd st h4 (by decide) (by decide) hu⟩⟩
theorem OutR.read {N c m : Nat} {A : Option Addr} {R : List (List V)} (h : OutR N w A c m R) (hs : ∀ r ∈ R, r.length ≤ 100000000) : RowsR w A m R := by
  obtain ⟨h0, sl, h1, h2⟩ := h
  exact ⟨sl, Rd.of_own h1, h0, fun j r hj => by obtain ⟨g, cj, h3, h4⟩ := h2 j r hj; exact ⟨_, cj, h3, Rd.of_own h4, hs r (List.mem_of_getElem? hj)⟩⟩
/-- One of the operations, as a list of its own. -/
theorem OpsAt.one {l : List OpV} {b o m : Nat} (ho : OpsAt B0 w (some ⟨b, o, none⟩) m l) (k : Nat) (hk : k < l.length) : OpsAt B0 w (some ⟨b, o + k * 17, none⟩) 1 [l[k]] := by
  have hfull := ho
  obtain ⟨hl, xs, hr, hE⟩ := ho
  obtain ⟨b', o', cs, he, hop, h17, hc⟩ := hfull.at_ k hk
  injection he with he
  injection he with he1 he2 _
  subst he1 he2
  refine ⟨rfl, cs, ⟨⟨h17, .inr ⟨b, o + k * 17, rfl, fun j hj => hc j (by omega)⟩⟩, ?_⟩, ?_⟩
  · rcases hr.2 with h0 | ⟨b2, o2, he2, h1, h2⟩
    · omega
    · injection he2 with he2
      injection he2 with e1 e2 _
      subst e1 e2
      exact .inr ⟨b, o + k * 17, rfl, h1, h2⟩
  · refine ⟨[cs], by simp, rfl, fun i h1 h2 => ?_⟩
    simp at h1
    subst h1
    exact ⟨h17, hop⟩
/-- How many changes a draft has. -/
def Mk (w : World) (db k : Nat) : Prop := ∃ A c, C w db 1 (.slice A k c)
theorem DbAt.mkk {L : List Chg} (h : DbAt B0 w db sb L D) : Mk w db L.length := by
  obtain ⟨A, c, xs, hd0, _⟩ := h.d.ex
  exact ⟨A, c, cells_of_blk hd0 1 rfl⟩
theorem Mk.eq {k k' : Nat} (h : Mk w db k) (h' : Mk w db k') : k = k' := by
  obtain ⟨A, c, h1⟩ := h
  obtain ⟨A', c', h2⟩ := h'
  unfold C at h1 h2
  rw [h1] at h2
  injection h2 with h2
  injection h2
theorem St.mkk (st : St B0 w0 w db sb n D) : ∃ k, Mk w db k ∧ k ≤ n := by
  obtain ⟨L, hd, hl⟩ := st.ex
  exact ⟨L.length, hd.mkk, hl⟩
theorem Mk.below {k : Nat} (h : Mk w db k) (hb : Below w.heap.size w w') : Mk w' db k := by
  obtain ⟨A, c, h1⟩ := h
  exact ⟨A, c, h1.below hb⟩
theorem St.postM (h : St B0 w0 w db sb n D) {L : List Chg} {E : Int} {D' : List Tb} {e : Ending} (hd : DbAt B0 w db sb L D) (hl : L.length ≤ n) (hp : OpPost B0 db sb w L E D' e w') : e = .returned (.int .i64 E) ∧ St B0 w0 w' db sb (n + 8) D' ∧ Upd db w w' ∧ (E ≠ 0 → ∀ k, Mk w db k → Mk w' db k) := by
  obtain ⟨h1, h2, h3⟩ := h.post hd hl hp
  refine ⟨h1, h2, h3, fun hE k hk => ?_⟩
  obtain ⟨L', _, hd', _, hL, _⟩ := hp.ex
  have := hk.eq hd.mkk
  subst this
  have := hd'.mkk
  rw [hL hE] at this
  exact this
theorem St.insM (h : St B0 w0 w db sb n D) {nm : ByteArray} {row : List V} {A : Option Addr} {m c : Nat} (hn : n ≤ 50000) (hnm : nm.size ≤ 9223372036854775807) (hrow : RdS B0 w 3 A m (rowCells row)) (hl : row.length = m) (hwf : ∀ v ∈ row, wf64 v.n) (hrs : ∀ v ∈ row, v.s.size ≤ 9223372036854775807) :
    Calls Tryz.prog 19 #[.pointer (some ⟨db, 0, none⟩), .string nm, .slice A m c] w fun e w' => e = .returned (.int .i64 (insE D nm row)) ∧ St B0 w0 w' db sb (n + 8) (insD D nm row) ∧ Upd db w w' ∧ (insE D nm row ≠ 0 → ∀ k, Mk w db k → Mk w' db k) := by
  obtain ⟨L, hd, hll⟩ := h.ex
  exact (ins_any B0 db sb L D nm A m c row w hd (by omega) hnm hrow hl hwf hrs h.le).mono fun e w' hp => h.postM hd hll hp
theorem St.updM (h : St B0 w0 w db sb n D) {nm : ByteArray} {row : List V} {A : Option Addr} {m c : Nat} (hn : n ≤ 50000) (hnm : nm.size ≤ 9223372036854775807) (hrow : RdS B0 w 3 A m (rowCells row)) (hl : row.length = m) (hwf : ∀ v ∈ row, wf64 v.n) (hrs : ∀ v ∈ row, v.s.size ≤ 9223372036854775807) :
    Calls Tryz.prog 29 #[.pointer (some ⟨db, 0, none⟩), .string nm, .slice A m c] w fun e w' => e = .returned (.int .i64 (updE D nm row)) ∧ St B0 w0 w' db sb (n + 8) (updD D nm row) ∧ Upd db w w' ∧ (updE D nm row ≠ 0 → ∀ k, Mk w db k → Mk w' db k) := by
  obtain ⟨L, hd, hll⟩ := h.ex
  exact (upd_any B0 db sb L D nm A m c row w hd (by omega) hnm hrow hl hwf hrs h.le).mono fun e w' hp => h.postM hd hll hp
theorem St.markM {k : Nat} (hk : Mk w db k) : Calls Tryz.prog 28 #[.pointer (some ⟨db, 0, none⟩)] w fun e w' => e = .returned (.int .i64 k) ∧ w = w' := by
  obtain ⟨A, c, h1⟩ := hk
  exact mark_any db A k c w h1
/-- A table of a name that was told. -/
theorem names_zero {D : List Tb} {ns : List ByteArray} (h : NamesL D ns) (ho : Ok D) (hp : 0 < D.length) : ∃ nm i T, ns[0]? = some nm ∧ findT D nm 0 = some (i, T) ∧ nm.size ≤ 9223372036854775807 := by
  have hl : 0 < ns.length := by rw [h.len]; exact hp
  obtain ⟨i, T, hT, hn⟩ := (h.mem ns[0]).1 (List.getElem_mem hl)
  refine ⟨ns[0], i, T, List.getElem?_eq_getElem hl, names_found hT ho hn, ?_⟩
  rw [← hn]
  have := name_size (right_facts (ho.right i T hT)).nm
  omega
theorem walk_small {i : Nat} {T : Tb} {R : List (List V)} (ho : Ok D) (hT : D[i]? = some T) (h : WalkL T i R) : ∀ r ∈ R, r.length ≤ 100000000 := fun r hr => by
  have h1 := ho.fit i T hT r ((h.mem r).1 hr)
  have h2 := (right_facts (ho.right i T hT)).c3
  rw [fits_len h1.fit]
  omega
end
end Go.Proofs.YtekokogmnhlchaaGreatDoor
