import Derived.Test.YtekokogmnhlchaaGreatDoorB5
import Derived.Laws.BitsLemmas
set_option linter.unusedSimpArgs false
set_option linter.unusedVariables false
namespace Go.Proofs.YtekokogmnhlchaaGreatDoor
open Go.RowKit
/-! ## Many tables, many rows, as plain data -/
def schOf (nm : ByteArray) : Sch := ⟨nm, [⟨⟨#[107]⟩, 1, 0⟩], []⟩
def nmM : List ByteArray := [⟨#[97]⟩, ⟨#[98]⟩, ⟨#[99]⟩, ⟨#[100]⟩, ⟨#[101]⟩]
def dM (k : Nat) : List Tb := (nmM.take (min k 4)).map fun nm => ⟨schOf nm, []⟩
def iv (n : Int) : V := ⟨1, n, ⟨#[]⟩⟩
def dI (rows : List (List V)) : List Tb := [⟨schOf ⟨#[97]⟩, []⟩, ⟨schOf ⟨#[98]⟩, rows⟩, ⟨schOf ⟨#[99]⟩, []⟩, ⟨schOf ⟨#[100]⟩, []⟩]
theorem schOf_right : ∀ nm ∈ nmM, rightS (schOf nm) = true := by decide +kernel
theorem creE_M : ∀ k, (h : k < 5) → creE (dM k) (schOf nmM[k]) = if k < 4 then 0 else 2 := by decide +kernel
theorem creD_M (k : Nat) (h : k < 5) : creD (dM k) (schOf nmM[k]) = dM (k + 1) := by
  rw [creD, creE_M k h]
  match k, h with
  | 0, _ => rfl
  | 1, _ => rfl
  | 2, _ => rfl
  | 3, _ => rfl
  | 4, _ => rfl
theorem dM4 : dM 5 = dI [] := rfl
theorem find_I (rows : List (List V)) : findT (dI rows) ⟨#[98]⟩ 0 = some (1, ⟨schOf ⟨#[98]⟩, rows⟩) := by rfl
theorem find_Ic (rows : List (List V)) : findT (dI rows) ⟨#[99]⟩ 0 = some (2, ⟨schOf ⟨#[99]⟩, []⟩) := by rfl
theorem rightV_iv (n : Int) : rightV (iv n) = 0 := by simp [rightV, iv]
theorem fits_iv (n : Int) : fitsB (schOf ⟨#[98]⟩) [iv n] = true := by
  simp [fitsB, goFits, fitV, schOf, rightV_iv]
  simp [iv]
theorem hurt_iv (rows : List (List V)) (r : List V) : hurtB ⟨schOf ⟨#[98]⟩, rows⟩ r = false := by rfl
def ivs (f : Int) (i : Nat) : List (List V) := (List.range i).map fun j : Nat => [iv (f + j)]
theorem ivs_len (f : Int) (i : Nat) : (ivs f i).length = i := by simp [ivs]
theorem ivs_succ (f : Int) (i : Nat) : ivs f (i + 1) = ivs f i ++ [[iv (f + i)]] := by simp [ivs, List.range_succ]
theorem col_iv (n : Int) : col [iv n] 0 = iv n := rfl
theorem iv_inj {a b : Int} (h : iv a = iv b) : a = b := by injection h
theorem was_iv {rows : List (List V)} {n : Int} (h : ∀ r ∈ rows, ∃ m, r = [iv m] ∧ m ≠ n) (s : Sch) : wasT ⟨s, rows⟩ (iv n) = none := by
  rw [wasT, List.find?_eq_none]
  intro r hr
  obtain ⟨m, rfl, hm⟩ := h r hr
  rw [col_iv]
  exact fun e => hm (iv_inj (of_decide_eq_true e))
theorem was_iv_in {rows : List (List V)} {n : Int} (h : [iv n] ∈ rows) (s : Sch) : (wasT ⟨s, rows⟩ (iv n)).isSome = true := by
  rw [wasT, List.find?_isSome]
  exact ⟨_, h, by simp [col_iv]⟩
theorem insE_iv (rows : List (List V)) (n : Int) (h : ∀ r ∈ rows, ∃ m, r = [iv m] ∧ m ≠ n) : insE (dI rows) ⟨#[98]⟩ [iv n] = if 64 ≤ rows.length then 2 else 0 := by
  rw [insE, find_I]
  simp only [fits_iv, if_true, col_iv, was_iv h, Option.isSome_none, hurt_iv]
  simp
theorem insD_iv (rows : List (List V)) (n : Int) (h : ∀ r ∈ rows, ∃ m, r = [iv m] ∧ m ≠ n) : insD (dI rows) ⟨#[98]⟩ [iv n] = if 64 ≤ rows.length then dI rows else dI (rows ++ [[iv n]]) := by
  rw [insD, insE_iv rows n h]
  by_cases h6 : 64 ≤ rows.length
  · simp [h6]
  · rw [if_neg h6, if_pos rfl, if_neg h6, putD, find_I]
    have : layT ⟨schOf ⟨#[98]⟩, rows⟩ (iv n) (some [iv n]) = ⟨schOf ⟨#[98]⟩, rows ++ [[iv n]]⟩ := by
      rw [layT, filter_none (was_iv h _)]; rfl
    simp only [col_iv, this]
    rfl
theorem insE_in (rows : List (List V)) (n : Int) (h : [iv n] ∈ rows) : insE (dI rows) ⟨#[98]⟩ [iv n] = 63 := by
  rw [insE, find_I]
  simp only [fits_iv, if_true, col_iv, was_iv_in h]
theorem ivs_mem {f : Int} {i : Nat} {r : List V} (h : r ∈ ivs f i) : ∃ j : Nat, j < i ∧ r = [iv (f + j)] := by
  simp only [ivs, List.mem_map, List.mem_range] at h
  obtain ⟨j, hj, rfl⟩ := h
  exact ⟨j, hj, rfl⟩
theorem ivs_in {f : Int} {i : Nat} (j : Nat) (h : j < i) : [iv (f + j)] ∈ ivs f i := by
  simp only [ivs, List.mem_map, List.mem_range]
  exact ⟨j, h, rfl⟩
def rM (f : Int) (i : Nat) : List (List V) := ivs f (min i 64)
theorem ins_M (f : Int) (i : Nat) (hi : i < 66) : insE (dI (rM f i)) ⟨#[98]⟩ [iv (f + i)] = (if i < 64 then 0 else 2) ∧ insD (dI (rM f i)) ⟨#[98]⟩ [iv (f + i)] = dI (rM f (i + 1)) := by
  have h : ∀ r ∈ rM f i, ∃ m, r = [iv m] ∧ m ≠ f + i := fun r hr => by
    obtain ⟨j, hj, rfl⟩ := ivs_mem hr
    exact ⟨_, rfl, by omega⟩
  rw [insE_iv _ _ h, insD_iv _ _ h]
  have hl : (rM f i).length = min i 64 := ivs_len _ _
  by_cases h6 : i < 64
  · rw [if_neg (by omega), if_pos h6, if_neg (by omega)]
    refine ⟨rfl, ?_⟩
    rw [rM, rM, show min i 64 = i by omega, show min (i + 1) 64 = i + 1 by omega, ivs_succ]
  · rw [if_pos (by omega), if_neg h6, if_pos (by omega)]
    refine ⟨rfl, ?_⟩
    rw [rM, rM, show min i 64 = 64 by omega, show min (i + 1) 64 = 64 by omega]
/-- One is taken away. -/
theorem filter_ivs (f : Int) (g : Nat) : ∀ i, ((ivs f i).filter fun r => decide (col r 0 ≠ iv (f + g))).length = if g < i then i - 1 else i
  | 0 => by simp [ivs]
  | i + 1 => by
    rw [ivs_succ, List.filter_append, List.length_append, filter_ivs f g i]
    by_cases h : i = g
    · subst h
      simp [col_iv]
    · have hne : iv (f + i) ≠ iv (f + g) := fun e => by have := iv_inj e; omega
      simp [col_iv, hne]
      split <;> split <;> omega
structure After (f : Int) (g : Nat) : Prop where
  e63 : insE (dI (rM f 66)) ⟨#[98]⟩ [iv (f + g)] = 63
  del : delE (dI (rM f 66)) ⟨#[98]⟩ (iv (f + g)) = 0
  ex : ∃ rows, delD (dI (rM f 66)) ⟨#[98]⟩ (iv (f + g)) = dI rows ∧ rows.length = 63 ∧ (∀ r ∈ rows, ∃ m, r = [iv m] ∧ m ≠ f + g ∧ f ≤ m) ∧ (∀ r ∈ rows, ∃ m, r = [iv m] ∧ m ≤ f + 100) ∧
    insE (dI rows) ⟨#[98]⟩ [iv (f - 1)] = 0 ∧ insD (dI rows) ⟨#[98]⟩ [iv (f - 1)] = dI (rows ++ [[iv (f - 1)]]) ∧ insE (dI (rows ++ [[iv (f - 1)]])) ⟨#[98]⟩ [iv (f + g)] = 2
theorem after_M (f : Int) (g : Nat) (hg : g < 64) : After f g := by
  have hin : [iv (f + g)] ∈ rM f 66 := ivs_in g (by omega)
  have h2 : delE (dI (rM f 66)) ⟨#[98]⟩ (iv (f + g)) = 0 := by
    rw [delE, find_I]
    simp only [rightV_iv, if_true, was_iv_in hin]
  refine ⟨insE_in _ _ hin, h2, (rM f 66).filter fun r => decide (col r 0 ≠ iv (f + g)), ?_, ?_, ?_, ?_, ?_⟩
  · rw [delD, if_pos h2, putD, find_I]
    simp only [layT, Option.toList_none, List.append_nil]
    rfl
  · rw [rM, filter_ivs, if_pos (by omega)]; rfl
  · intro r hr
    rw [List.mem_filter] at hr
    obtain ⟨j, hj, rfl⟩ := ivs_mem hr.1
    refine ⟨_, rfl, fun e => ?_, by omega⟩
    have := hr.2
    rw [e] at this
    simp [col_iv] at this
  · intro r hr
    rw [List.mem_filter] at hr
    obtain ⟨j, hj, rfl⟩ := ivs_mem hr.1
    exact ⟨_, rfl, by omega⟩
  · have hmem : ∀ r ∈ (rM f 66).filter fun r => decide (col r 0 ≠ iv (f + g)), ∃ m, r = [iv m] ∧ m ≠ f - 1 := fun r hr => by
      rw [List.mem_filter] at hr
      obtain ⟨j, hj, rfl⟩ := ivs_mem hr.1
      exact ⟨_, rfl, by omega⟩
    have hlen : ((rM f 66).filter fun r => decide (col r 0 ≠ iv (f + g))).length = 63 := by rw [rM, filter_ivs, if_pos (by omega)]; rfl
    have e1 := insE_iv _ _ hmem
    have e2 := insD_iv _ _ hmem
    rw [hlen, if_neg (by omega)] at e1 e2
    refine ⟨e1, e2, ?_⟩
    rw [insE_iv, if_pos (by rw [List.length_append, hlen]; simp)]
    intro r hr
    rw [List.mem_append, List.mem_singleton] at hr
    rcases hr with hr | rfl
    · rw [List.mem_filter] at hr
      obtain ⟨j, hj, rfl⟩ := ivs_mem hr.1
      refine ⟨_, rfl, fun e => ?_⟩
      have := hr.2
      rw [e] at this
      simp [col_iv] at this
    · exact ⟨_, rfl, by omega⟩
/-! ## A look through all -/
theorem toB_no (a : List UInt8) : toB a nothing = a ++ [255] := rfl
theorem boundB_no (a : List UInt8) (h : a.length ≤ 2) : boundB a nothing = a ++ [1] := by
  rw [boundB, List.take_of_length_le (by rw [List.length_append]; simp [keyV, nothing]; omega)]; rfl
/-- With no bounds nothing is left out. -/
theorem inB_no {a : List UInt8} (ha : a.length ≤ 2) {v : V} (hv : rightV v = 0) (x : List UInt8) : inB (boundB a nothing) (toB a nothing) (a ++ (keyV v ++ x)) := by
  rw [boundB_no a ha, toB_no]
  refine ⟨?_, .inr ?_⟩
  · rw [cmpB_append, cmpB_swap [1]]
    have := keyV_nothing_le v hv x
    omega
  · rw [cmpB_append]; exact keyV_lt_255 v hv x []
theorem scanL_no {T : Tb} {i : Nat} {c : Int} {R : List (List V)} (h : ScanL T i c nothing nothing R) (hr : ∀ r ∈ T.rows, ∀ k, rightV (col r k) = 0) : ∀ r, r ∈ R ↔ r ∈ T.rows := by
  intro r
  rw [h.mem]
  refine ⟨fun h => h.1, fun h => ⟨h, ?_⟩⟩
  have ha := aheadB_len i c
  unfold scanK valsOf
  split
  · simp only [keyL, List.flatMap_cons]
    exact inB_no ha (hr r h 0) _
  · simp only [keyL, List.flatMap_cons]
    exact inB_no ha (hr r h _) _
/-- The first one is the one with the lowest key. -/
theorem scan_first {T : Tb} {i : Nat} {R : List (List V)} (h : ScanL T i 0 nothing nothing R) {r : List V} (hr : r ∈ R) (hlo : ∀ u ∈ R, u ≠ r → cmpB (scanK i 0 r) (scanK i 0 u) < 0) : ∃ t, R = r :: t := by
  cases hR : R with
  | nil => rw [hR] at hr; simp at hr
  | cons x t =>
    by_cases hx : x = r
    · exact ⟨t, by rw [hx]⟩
    · have hs := h.srt
      rw [hR] at hs hr hlo
      have hrt : r ∈ t := by
        rcases List.mem_cons.1 hr with e | e
        · exact absurd e.symm hx
        · exact e
      have h1 := (List.pairwise_cons.1 hs).1 r hrt
      have h2 := hlo x (by simp) hx
      have := cmpB_trans h1 h2
      rw [cmpB_refl] at this
      omega
theorem scan_M {f : Int} (hf : 0 ≤ f ∧ f ≤ 65535) {g : Int} {rows R : List (List V)} (hrows : ∀ r ∈ rows, ∃ m, r = [iv m] ∧ m ≠ g ∧ f ≤ m) (hb : ∀ r ∈ rows, ∃ m, r = [iv m] ∧ m ≤ f + 100) (s : Sch)
    (h : ScanL ⟨s, rows ++ [[iv (f - 1)]]⟩ 1 0 nothing nothing R) : ∃ t, R = [iv (f - 1)] :: t := by
  have hall : ∀ r ∈ rows ++ [[iv (f - 1)]], ∀ k, rightV (col r k) = 0 := by
    intro r hr k
    have : ∃ m, r = [iv m] := by
      rcases List.mem_append.1 hr with hr | hr
      · obtain ⟨m, rfl, _⟩ := hrows r hr
        exact ⟨m, rfl⟩
      · exact ⟨_, List.mem_singleton.1 hr⟩
    obtain ⟨m, rfl⟩ := this
    cases k with
    | zero => exact rightV_iv m
    | succ k => simp [col]; decide
  have hm := scanL_no h hall
  refine scan_first h ((hm _).2 (by simp)) fun u hu hne => ?_
  have hu' := (hm u).1 hu
  rcases List.mem_append.1 hu' with hr | hr
  · obtain ⟨m, rfl, _, hfm⟩ := hrows u hr
    obtain ⟨m', e, hm'⟩ := hb _ hr
    have : m = m' := by
      injection e with e
      exact iv_inj e
    subst this
    rw [scanK_zero, scanK_zero, col_iv, col_iv]
    show cmpB ([UInt8.ofNat 1] ++ keyV (iv (f - 1))) ([UInt8.ofNat 1] ++ keyV (iv m)) < 0
    rw [cmpB_append]
    have := keyV_int_lt (a := f - 1) (b := m) ⟨by omega, by omega⟩ ⟨by omega, by omega⟩ (by omega) ⟨#[]⟩ ⟨#[]⟩ [] []
    simp only [List.append_nil] at this
    rw [iv, iv, this]
    omega
  · exact absurd (List.mem_singleton.1 hr) hne
theorem and_le (x : Int) (m : Nat) (hm : m < 2 ^ 63) : ∃ g : Nat, g ≤ m ∧ bits .and .i64 x (m : Int) = g := by
  refine ⟨(BitVec.ofInt 64 x).toNat &&& m, Nat.and_le_right, ?_⟩
  have h1 : (BitVec.ofInt 64 (m : Int)).toNat = m := by
    rw [BitVec.ofInt_natCast, BitVec.toNat_ofNat]; exact Nat.mod_eq_of_lt (by omega)
  have h2 : bits .and .i64 x (m : Int) = IntKind.i64.wrap (((BitVec.ofInt 64 x).toNat &&& (BitVec.ofInt 64 (m : Int)).toNat : Nat) : Int) := by
    simp only [bits, BitVec.toNat_and]; rfl
  have : (BitVec.ofInt 64 x).toNat &&& m ≤ m := Nat.and_le_right
  rw [h2, h1, IntKind.wrap_i64]
  omega
end Go.Proofs.YtekokogmnhlchaaGreatDoor
namespace Go.Proofs.YtekokogmnhlchaaGreatDoor
open Go.RowKit
theorem St.rds {B0 db sb n : Nat} {w0 w w' : World} {D : List Tb} (h : St B0 w0 w db sb n D) {k m : Nat} {A : Option Addr} {xs : List Value} (hr : RdS B0 w k A m xs) (hu : Upd db w w') : RdS B0 w' k A m xs := by
  obtain ⟨L, hd, _⟩ := h.ex
  exact hr.upd hd.d hu
theorem St.blk {B0 db sb n : Nat} {w0 w w' : World} {D : List Tb} (h : St B0 w0 w db sb n D) {b : Nat} {cs : Array Value} {t : TypeId} (hb : Blk w b cs t) (h1 : t ≠ 136) (h2 : t ≠ 155) (hu : Upd db w w') : Blk w' b cs t := by
  obtain ⟨L, hd, _⟩ := h.ex
  exact (hu.same b hb.lt (hd.d.safe (hb.safe h1 h2 B0))).trans hb
theorem St.all {db sb n : Nat} {w0 w : World} {D : List Tb} (h : St w0.heap.size w0 w db sb n D) : Below w0.heap.size w0 w := h.b
theorem len_dI {B0 db sb n : Nat} {w0 w : World} {D : List Tb} (h : St B0 w0 w db sb n D) (nm : ByteArray) (hnm : nm.size ≤ 9223372036854775807) {i : Nat} {T : Tb} (hf : findT D nm 0 = some (i, T)) :
    Calls Tryz.prog 22 #[.pointer (some ⟨db, 0, none⟩), .string nm] w fun e w' => e = .returned (.tuple #[.int .i64 T.rows.length, .int .i64 0]) ∧ Below w.heap.size w w' := by
  obtain ⟨L, hd, _⟩ := h.ex
  have := len_any B0 db sb L D nm w hd hnm
  rw [hf] at this
  exact this
theorem St.del {B0 db sb n : Nat} {w0 w : World} {D : List Tb} (h : St B0 w0 w db sb n D) (nm : ByteArray) (v : V) (hn : n ≤ 50000) (hvw : wf64 v.n) (hvs : v.s.size ≤ 4000000) (hnm : nm.size ≤ 9223372036854775807) :
    Calls Tryz.prog 23 #[.pointer (some ⟨db, 0, none⟩), .string nm, v.val] w fun e w' => e = .returned (.int .i64 (delE D nm v)) ∧ St B0 w0 w' db sb (n + 8) (delD D nm v) ∧ Upd db w w' := by
  obtain ⟨L, hd, hll⟩ := h.ex
  exact (del_any B0 db sb L D nm v hvw hvs w hd (by omega) hnm h.le).mono fun e w' hp => h.post hd hll hp
theorem iv_wf {n : Int} (h0 : -1 ≤ n) (h1 : n ≤ 70000) : ∀ v ∈ [iv n], wf64 v.n := by
  intro v hv
  rw [List.mem_singleton] at hv
  subst hv
  exact ⟨by show (-9223372036854775808 : Int) ≤ n; omega, by show n ≤ 9223372036854775807; omega⟩
theorem iv_small {n : Int} : ∀ v ∈ [iv n], v.s.size ≤ 9223372036854775807 := by
  intro v hv
  rw [List.mem_singleton] at hv
  subst hv
  exact Nat.zero_le _
/-- The one row that is told first. -/
def FirstP (w : World) (n : Int) (e : Ending) (w' : World) : Prop := (∃ b o c A c2, e = .returned (.tuple #[.slice (some ⟨b, o, none⟩) 1 c, .int .i64 0]) ∧ C w' b o (.slice (some A) 1 c2) ∧ ∃ b2 o2, A = ⟨b2, o2, none⟩ ∧ C w' b2 (o2 + 1) (.int .i64 n)) ∧ Below w.heap.size w w'
theorem first_of {f : Int} {w w' : World} {e : Ending} {g : Int} (hf : 0 ≤ f ∧ f ≤ 65535) {rows : List (List V)} (hr : ∀ r ∈ rows, ∃ m, r = [iv m] ∧ m ≠ g ∧ f ≤ m) (hb : ∀ r ∈ rows, ∃ m, r = [iv m] ∧ m ≤ f + 100) (h : ScanPost (dI (rows ++ [[iv (f - 1)]])) ⟨#[98]⟩ 0 nothing nothing 1 w e w') : FirstP w (f - 1) e w' := by
  obtain ⟨h1, h2⟩ := h
  rw [find_I] at h1
  have hE : scanE ⟨schOf ⟨#[98]⟩, rows ++ [[iv (f - 1)]]⟩ 0 nothing nothing 1 = 0 := by rfl
  simp only [hE, if_true] at h1
  obtain ⟨R, A, c, hR, he, sl, hsl, hlen, hrow⟩ := h1
  obtain ⟨t, rfl⟩ := scan_M hf hr hb _ hR
  have hmin : min ([iv (f - 1)] :: t).length (Int.toNat 1) = 1 := by simp
  rw [hmin] at he hsl hlen
  obtain ⟨Aj, cj, hj, hown⟩ := hrow 0 [iv (f - 1)] (by simp)
  obtain ⟨b, o, rfl, hc⟩ := hsl.some_ (by omega)
  obtain ⟨b2, o2, rfl, hc2⟩ := (Rd.of_own hown).some_ (by simp)
  have hsl1 : sl.length = 1 := hsl.1
  refine ⟨⟨b, o, c, ⟨b2, o2, none⟩, cj, he, ?_, b2, o2, rfl, hc2 1 (by simp [rowCells, V.cells])⟩, h2⟩
  have := hc 0 (by omega)
  rw [Nat.add_zero] at this
  exact this.trans hj
set_option maxHeartbeats 6400000 in
set_option maxRecDepth 1000000 in
theorem many_ok (first gone : Int) (w : World) (hT : Tabs w) (h3 : 3 ≤ w.heap.size) : Calls Tryz.prog 4 #[.int .i64 first, .int .i64 gone] w fun e w' => e = .returned (.bool true) ∧ Below w.heap.size w w' := by
  obtain ⟨f, hf, hfe⟩ := and_le first 65535 (by decide)
  obtain ⟨g, hg, hge⟩ := and_le gone 63 (by decide)
  have HT := hide hT
  have H3 := hide h3
  have Hfe : Hid (bits .and .i64 first 65535 = f) := hfe
  have Hge : Hid (bits .and .i64 gone 63 = g) := hge
  have Hf := hide hf
  have Hg := hide hg
  clear hT h3 hfe hge hf hg
  go_enter Tryz.func4, Tryz.ntmps4
  go_wp2_with fail
  refine (lnew_ok _).mono ?_
  rintro e w1 ⟨db, sb, rfl, hd, hb⟩
  have S1 := hide (St.new hd hb HT.out H3.out)
  clear hd hb
  go_wp2_with fail
  have S2 := hide (S1.out.below ((Below.refl w1.heap.size w1).alloc (Nat.le_refl _) (.cells #[.string ⟨#[97]⟩, .string ⟨#[98]⟩, .string ⟨#[99]⟩, .string ⟨#[100]⟩, .string ⟨#[101]⟩] 9)))
  have N2 : Hid (RdS w.heap.size (w1.alloc (.cells #[.string ⟨#[97]⟩, .string ⟨#[98]⟩, .string ⟨#[99]⟩, .string ⟨#[100]⟩, .string ⟨#[101]⟩] 9)) 1 (some ⟨w1.heap.size, 0, none⟩) 5 (strs nmM)) := hide (RdS.of_own (World.ownsRow_lit (base := w.heap.size) w1 #[.string ⟨#[97]⟩, .string ⟨#[98]⟩, .string ⟨#[99]⟩, .string ⟨#[100]⟩, .string ⟨#[101]⟩] 5 S1.out.le (by decide) rfl) (by decide) (by decide))
  go_loopw [8] (fun i wr => ∃ k : Nat, k ≤ 5 ∧ i = .int .i64 k ∧ Hid (St w.heap.size w wr db sb (8 * k) (dM k)) ∧ Hid (RdS w.heap.size wr 1 (some ⟨w1.heap.size, 0, none⟩) 5 (strs nmM))) (fun i _ => 5 - (intOf i).toNat)
  case atStart => exact ⟨0, Nat.zero_le _, rfl, S2, N2⟩
  case round =>
    obtain ⟨k, hk, rfl, HS, HN⟩ := hrel
    by_cases hlt : k < 5
    · obtain ⟨nm, hnm⟩ : ∃ nm, nmM[k] = nm := ⟨_, rfl⟩
      have hc : C wr w1.heap.size k (.string nm) := by
        obtain ⟨b, o, hA, hc⟩ := HN.out.rd.some_ (by omega)
        cases hA
        have := hc k (by simpa [strs, nmM] using hlt)
        rw [Nat.zero_add] at this
        rw [C, this, strs, List.getElem?_map, List.getElem?_eq_getElem (show k < nmM.length from hlt)]
        exact congrArg (fun x => some (Value.string x)) hnm
      have hE := creE_M k hlt
      have hD := creD_M k hlt
      rw [hnm] at hE hD
      have hr := schOf_right nm (hnm ▸ List.getElem_mem _)
      have hal := (Below.refl wr.heap.size wr).alloc (Nat.le_refl _) (.cells #[.string ⟨#[107]⟩, .int .i64 1, .int .i64 0] 49)
      have HS3 := hide (HS.out.below hal)
      have HN3 := hide (HN.out.below hal)
      have hsv : SchV (wr.alloc (.cells #[.string ⟨#[107]⟩, .int .i64 1, .int .i64 0] 49)) (schOf nm) (.agg #[.string nm, .slice (some ⟨wr.heap.size, 0, none⟩) 1 1, .slice none 0 0]) :=
        ⟨_, _, _, _, rfl, Nat.le_refl _, Nat.le_refl _, Rd.lit _ #[.string ⟨#[107]⟩, .int .i64 1, .int .i64 0] 49 3 1 _ rfl rfl, Rd.nil _ _ _⟩
      have hcr := HS3.out.cre (by omega) hr hsv
      rw [hE, hD] at hcr
      have Hcr := hide hcr
      clear hE hD hr hal hsv hcr hnm HS HN
      have hlt' : (k : Int) < 5 := by omega
      go_wp2_with fail
      refine Hcr.out.mono ?_
      rintro e w3 ⟨rfl, hs3, hu⟩
      have HS4 := hide hs3
      have HN4 := hide (HS3.out.rds HN3.out hu)
      clear hs3 hu Hcr HS3 HN3 hc hlt'
      by_cases h4 : k < 4
      · have h4' : (k : Int) < 4 := by omega
        have h4n : ¬ (k : Int) = 4 := by omega
        rw [if_pos h4]
        go_wp2_with fail
        exact ⟨⟨k + 1, by omega, by go_num, HS4, HN4⟩, by simp [intOf]; omega⟩
      · have : k = 4 := by omega
        subst this
        go_wp2_with fail
        exact ⟨⟨5, by omega, rfl, HS4, HN4⟩, by simp [intOf]⟩
    · have hke : k = 5 := by omega
      subst hke
      have S3 := HS
      rw [dM4] at S3
      clear HS HN S2 N2 S1
      have hfe := Hfe.out
      rw [show ((5 : Nat) : Int) = 5 from rfl]
      go_wp2_with fail
      clear hfe
      rw [show dI [] = dI (rM f 0) from rfl] at S3
      go_loopw [10] (fun i wr => ∃ k : Nat, k ≤ 66 ∧ i = .int .i64 k ∧ Hid (St w.heap.size w wr db sb (40 + 8 * k) (dI (rM f k)))) (fun i _ => 66 - (intOf i).toNat)
      case atStart => exact ⟨0, Nat.zero_le _, rfl, S3⟩
      case round =>
        obtain ⟨k, hk, rfl, HS⟩ := hrel
        by_cases hlt : k < 66
        · have hi := ins_M f k hlt
          have hown := World.ownsRow_lit (base := w.heap.size) (e := 28) (size := 3) wr #[.int .i64 1, .int .i64 ((f : Int) + k), .string ⟨#[]⟩] 1 HS.out.le (by decide) rfl
          have hal := (Below.refl wr.heap.size wr).alloc (Nat.le_refl _) (.cells #[.int .i64 1, .int .i64 ((f : Int) + k), .string ⟨#[]⟩] 28)
          have HS3 := hide (HS.out.below hal)
          have hin := HS3.out.ins (nm := ⟨#[98]⟩) (row := [iv ((f : Int) + k)]) (A := some ⟨wr.heap.size, 0, none⟩) (m := 1) (c := 1) (by omega) (by decide) (RdS.of_own hown (by decide) (by decide)) rfl (iv_wf (by have := Hf.out; omega) (by have := Hf.out; omega)) iv_small
          rw [hi.1, hi.2] at hin
          have Hin := hide hin
          have hf65 := Hf.out
          clear hi hown hal hin HS
          have hlt' : (k : Int) < 66 := by omega
          go_wp2_with fail
          refine Hin.out.mono ?_
          rintro e w3 ⟨rfl, hs3, hu⟩
          have HS4 := hide hs3
          clear hs3 hu Hin HS3 hlt'
          by_cases h4 : k < 64
          · have h4' : (k : Int) < 64 := by omega
            have h4n : ¬ (64 : Int) ≤ (k : Int) := by omega
            rw [if_pos h4]
            go_wp2_with fail
            exact ⟨⟨k + 1, by omega, by go_num, HS4⟩, by simp [intOf]; omega⟩
          · have h4' : ¬ (k : Int) < 64 := by omega
            have h4n : (64 : Int) ≤ (k : Int) := by omega
            rw [if_neg h4]
            go_wp2_with fail
            exact ⟨⟨k + 1, by omega, by go_num, HS4⟩, by simp [intOf]; omega⟩
        · have hke : k = 66 := by omega
          subst hke
          have HS4 := HS
          clear HS S3 hlt hk
          have hge := Hge.out
          have hA := after_M f g (by have := Hg.out; omega)
          have HA := hide hA
          have hf65 := Hf.out
          have hg64 := Hg.out
          obtain ⟨rows, d1, d2, d3, d7, d4, d5, d6⟩ := hA.ex
          have hown := World.ownsRow_lit (base := w.heap.size) (e := 28) (size := 3) (wr.alloc (.cells #[.int .i64 1, .int .i64 ((f : Int) + g), .string ⟨#[]⟩] 28)) #[.int .i64 1, .int .i64 ((f : Int) + g), .string ⟨#[]⟩] 1 (Nat.le_trans HS4.out.le (by simp)) (by decide) rfl
          have hal := (Below.refl wr.heap.size wr).alloc (Nat.le_refl _) (.cells #[.int .i64 1, .int .i64 ((f : Int) + g), .string ⟨#[]⟩] 28)
          have hal2 := hal.alloc hal.size (.cells #[.int .i64 1, .int .i64 ((f : Int) + g), .string ⟨#[]⟩] 28)
          have hkb := (Blk.new wr #[.int .i64 1, .int .i64 ((f : Int) + g), .string ⟨#[]⟩] 28).alloc (.cells #[.int .i64 1, .int .i64 ((f : Int) + g), .string ⟨#[]⟩] 28)
          rw [show (wr.alloc (.cells #[.int .i64 1, .int .i64 ((f : Int) + g), .string ⟨#[]⟩] 28)).heap.size = wr.heap.size + 1 by simp] at hown
          have S5 := hide (HS4.out.below hal2)
          have hin := S5.out.ins (nm := ⟨#[98]⟩) (row := [iv ((f : Int) + g)]) (A := some ⟨wr.heap.size + 1, 0, none⟩) (m := 1) (c := 1) (by omega) (by decide) (RdS.of_own hown (by decide) (by decide)) rfl (iv_wf (by omega) (by omega)) iv_small
          rw [insD, hA.e63, if_neg (by decide)] at hin
          have Hin := hide hin
          have Hkb := hide hkb
          have Hd1 := hide d1
          have Hd2 := hide d2
          have Hd3 := hide d3
          have Hd4 := hide d4
          have Hd7 := hide d7
          have Hd5 := hide d5
          have Hd6 := hide d6
          have Hdel := hide hA.del
          clear hA d1 d2 d3 d4 d5 d6 d7 hin hkb hal hal2 hown
          rw [show ((66 : Nat) : Int) = 66 from rfl]
          go_wp2_with fail
          clear hge
          refine Hin.out.mono ?_
          rintro e w5 ⟨rfl, hs5, hu⟩
          have S6 := hide hs5
          have Hkb6 := hide (S5.out.blk Hkb.out (by decide) (by decide) hu)
          have m0 := Hkb6.out.c 0 (v := .int .i64 1) rfl
          have m1 := Hkb6.out.c 1 (v := .int .i64 ((f : Int) + g)) rfl
          have m2 := Hkb6.out.c 2 (v := .string ⟨#[]⟩) rfl
          have hde := S6.out.del ⟨#[98]⟩ (iv ((f : Int) + g)) (by omega) (iv_wf (n := (f : Int) + g) (by omega) (by omega) _ (List.mem_singleton.2 rfl)) (Nat.zero_le _) (by decide)
          rw [Hdel.out, Hd1.out] at hde
          have Hde := hide hde
          clear hde hs5 hu Hin S5 Hkb Hdel Hd1
          go_wp2_with fail
          refine Hde.out.mono ?_
          rintro e w6 ⟨rfl, hs6, hu⟩
          have S7 := hide hs6
          have Hkb7 := hide (S6.out.blk Hkb6.out (by decide) (by decide) hu)
          clear hs6 hu Hde S6 Hkb6 m0 m1 m2
          have hown := World.ownsRow_lit (base := w.heap.size) (e := 28) (size := 3) w6 #[.int .i64 1, .int .i64 ((f : Int) - 1), .string ⟨#[]⟩] 1 S7.out.le (by decide) rfl
          have hal := (Below.refl w6.heap.size w6).alloc (Nat.le_refl _) (.cells #[.int .i64 1, .int .i64 ((f : Int) - 1), .string ⟨#[]⟩] 28)
          have S8 := hide (S7.out.below hal)
          have Hkb8 := hide (Hkb7.out.below hal)
          have hin := S8.out.ins (nm := ⟨#[98]⟩) (row := [iv ((f : Int) - 1)]) (A := some ⟨w6.heap.size, 0, none⟩) (m := 1) (c := 1) (by omega) (by decide) (RdS.of_own hown (by decide) (by decide)) rfl (iv_wf (n := (f : Int) - 1) (by omega) (by omega)) iv_small
          rw [Hd4.out, Hd5.out] at hin
          have Hin := hide hin
          clear hin hal hown S7 Hkb7 Hd4 Hd5
          go_wp2_with fail
          refine Hin.out.mono ?_
          rintro e w7 ⟨rfl, hs7, hu⟩
          have S9 := hide hs7
          have Hkb9 := hide (S8.out.blk Hkb8.out (by decide) (by decide) hu)
          clear hs7 hu Hin S8 Hkb8
          have m0 := Hkb9.out.c 0 (v := .int .i64 1) rfl
          have m1 := Hkb9.out.c 1 (v := .int .i64 ((f : Int) + g)) rfl
          have m2 := Hkb9.out.c 2 (v := .string ⟨#[]⟩) rfl
          have hown := World.ownsRow_lit (base := w.heap.size) (e := 28) (size := 3) w7 #[.int .i64 1, .int .i64 ((f : Int) + g), .string ⟨#[]⟩] 1 S9.out.le (by decide) rfl
          have hal := (Below.refl w7.heap.size w7).alloc (Nat.le_refl _) (.cells #[.int .i64 1, .int .i64 ((f : Int) + g), .string ⟨#[]⟩] 28)
          have S10 := hide (S9.out.below hal)
          have hin := S10.out.ins (nm := ⟨#[98]⟩) (row := [iv ((f : Int) + g)]) (A := some ⟨w7.heap.size, 0, none⟩) (m := 1) (c := 1) (by omega) (by decide) (RdS.of_own hown (by decide) (by decide)) rfl (iv_wf (n := (f : Int) + g) (by omega) (by omega)) iv_small
          rw [insD, Hd6.out, if_neg (by decide)] at hin
          have Hin := hide hin
          clear hin hal hown S9 Hkb9 Hd6
          go_wp2_with fail
          refine Hin.out.mono ?_
          rintro e w8 ⟨rfl, hs8, hu⟩
          have S11 := hide hs8
          clear hs8 hu Hin S10 m0 m1 m2
          have hl63 : (rows ++ [[iv ((f : Int) - 1)]]).length = 64 := by rw [List.length_append, Hd2.out]; rfl
          have hle := len_dI S11.out ⟨#[98]⟩ (by decide) (find_I _)
          simp only [hl63] at hle
          have Hle := hide hle
          clear hle hl63
          go_wp2_with fail
          refine Hle.out.mono ?_
          rintro e w9 ⟨rfl, hb⟩
          have S12 := hide (S11.out.below hb)
          clear hb Hle S11
          have hsc := S12.out.scan ⟨#[98]⟩ 0 nothing nothing 1 (by omega) (by decide) ⟨by decide, by decide⟩ (by decide) ⟨by decide, by decide⟩ (by decide)
          have hh : ∀ w' e, ScanPost (dI (rows ++ [[iv ((f : Int) - 1)]])) ⟨#[98]⟩ 0 nothing nothing 1 w9 e w' → FirstP w9 ((f : Int) - 1) e w' := fun w' e h => first_of ⟨by omega, by omega⟩ Hd3.out Hd7.out h
          have hsc2 : Calls Tryz.prog 20 #[.pointer (some ⟨db, 0, none⟩), .string ⟨#[98]⟩, .int .i64 0, .agg #[.int .i64 0, .int .i64 0, .string ⟨#[]⟩], .agg #[.int .i64 0, .int .i64 0, .string ⟨#[]⟩], .int .i64 1] w9 _ := hsc.mono fun e w' h => hh w' e h
          have Hsc := hide hsc2
          clear hsc hh hsc2 Hd3 Hd7
          go_wp2_with fail
          refine Hsc.out.mono ?_
          rintro e w10 ⟨⟨b, o, c, A, c2, rfl, hc1, hc2⟩, hb⟩
          have S13 := hide (S12.out.below hb)
          have HC1 := hide hc1
          have HC2 := hide hc2
          clear hb Hsc S12 hc1 hc2
          have hle := len_dI S13.out ⟨#[99]⟩ (by decide) (find_Ic _)
          have Hle : Hid (Calls Tryz.prog 22 #[.pointer (some ⟨db, 0, none⟩), .string ⟨#[99]⟩] w10 fun e w' => e = .returned (.tuple #[.int .i64 0, .int .i64 0]) ∧ Below w10.heap.size w10 w') := hide hle
          clear hle
          go_wp2_with fail
          refine Hle.out.mono ?_
          rintro e w11 ⟨rfl, hb⟩
          have S14 := hide (S13.out.below hb)
          have HC3 := hide (HC1.out.below hb)
          obtain ⟨b2, o2, rfl, hc2⟩ := HC2.out
          have HC4 := hide (hc2.below hb)
          clear hb Hle S13 HC1 HC2 hc2
          have hto := told_ok w11 (HT.out.below (S14.out.all)) (Nat.le_trans H3.out S14.out.b.size)
          have Hto := hide hto
          clear hto
          go_wp2_with fail
          refine Hto.out.mono ?_
          rintro e w12 ⟨rfl, hb⟩
          have S15 := hide (S14.out.below hb)
          have z1 := HC3.out.below hb
          have z2 := HC4.out.below hb
          clear hb Hto S14 HC3 HC4
          go_wp2_with fail
          go_ret
          exact ⟨rfl, S15.out.all⟩
end Go.Proofs.YtekokogmnhlchaaGreatDoor
