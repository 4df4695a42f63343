import Derived.Test.YtekokogmnhlchaaGreatDoorB4
import Derived.Test.YtekokogmnhlchaaGreatDoorB3
import Derived.Test.YtekokogmnhlchaaGreatDoorC3
set_option linter.unusedSimpArgs false
set_option linter.unusedVariables false
set_option linter.unusedSectionVars false
namespace Go.Proofs.YtekokogmnhlchaaGreatDoor
open Go.RowKit
def little : Sch := ⟨⟨#[116]⟩, [⟨⟨#[107]⟩, 1, 0⟩, ⟨⟨#[110]⟩, 2, 3⟩], [⟨1, true⟩]⟩
def rowL (k : Int) (n : ByteArray) : List V := [⟨1, k, ⟨#[]⟩⟩, ⟨2, 0, n⟩]
def dL (rows : List (List V)) : List Tb := [⟨little, rows⟩]
theorem little_right : rightS little = true := by decide +kernel
theorem creE_L : creE [] little = 0 := by decide +kernel
theorem creD_L : creD [] little = dL [] := by rw [creD, if_pos creE_L]; rfl
theorem ins1_L : insE (dL []) ⟨#[116]⟩ (rowL 1 ⟨#[97]⟩) = 0 := by decide +kernel
theorem ins1D_L : insD (dL []) ⟨#[116]⟩ (rowL 1 ⟨#[97]⟩) = dL [rowL 1 ⟨#[97]⟩] := by rw [insD, if_pos ins1_L]; rfl
theorem ins2_L : insE (dL [rowL 1 ⟨#[97]⟩]) ⟨#[116]⟩ (rowL 2 ⟨#[97]⟩) = 64 := by decide +kernel
theorem ins3_L : insE (dL [rowL 1 ⟨#[97]⟩]) ⟨#[116]⟩ (rowL 1 ⟨#[98]⟩) = 63 := by decide +kernel
theorem was_L : wasT ⟨little, [rowL 1 ⟨#[97]⟩]⟩ ⟨1, 1, ⟨#[]⟩⟩ = some (rowL 1 ⟨#[97]⟩) := by rfl
theorem find_L (rows : List (List V)) : findT (dL rows) ⟨#[116]⟩ 0 = some (0, ⟨little, rows⟩) := by rfl
theorem insu_L (rows : List (List V)) : insE (dL rows) ⟨#[117]⟩ [] = 60 := by
  have : findT (dL rows) ⟨#[117]⟩ 0 = none := by rfl
  rw [insE, this]
theorem scanE_L (rows : List (List V)) : scanE ⟨little, rows⟩ 1 nothing nothing 4 = 0 := by rfl
theorem row_ok (k : Int) (n : ByteArray) (w : World) : Calls Tryz.prog 58 #[.int .i64 k, .string n] w fun e w' => ∃ A c, e = .returned (.slice A 2 c) ∧ w'.ownsRow w.heap.size 28 3 (.slice A 2 c) 2 (rowCells (rowL k n)) ∧ Below w.heap.size w w' := by
  go_enter Tryz.func58, Tryz.ntmps58
  go_wp2_with fail
  go_ret
  exact ⟨some ⟨w.heap.size, 0, none⟩, 2, rfl, World.ownsRow_lit (base := w.heap.size) w #[.int .i64 1, .int .i64 k, .string ⟨#[]⟩, .int .i64 2, .int .i64 0, .string n] 2 (Nat.le_refl _) (by decide) rfl, (Below.refl _ _).alloc (Nat.le_refl _) _⟩
theorem little_ok (w : World) : Calls Tryz.prog 57 #[] w fun e w' => ∃ v, e = .returned v ∧ SchV w' little v ∧ Below w.heap.size w w' := by
  go_enter Tryz.func57, Tryz.ntmps57
  go_wp2_with fail
  refine bodyPost_ret (v := .agg #[.string ⟨#[116]⟩, .slice (some ⟨w.heap.size + 1, 0, none⟩) 2 2, .slice (some ⟨w.heap.size + 1 + 1, 0, none⟩) 1 1]) (by simp [results, Tryz.results57, go_sem]) rfl ?_
  refine ⟨_, rfl, ⟨_, _, _, _, rfl, Nat.le_refl _, Nat.le_refl _, ?_, ?_⟩, (((Below.refl _ _).alloc (Nat.le_refl _) _).alloc (by simp) _).alloc (by simp; omega) _⟩
  · exact (Rd.lit _ #[.string ⟨#[107]⟩, .int .i64 1, .int .i64 0, .string ⟨#[110]⟩, .int .i64 2, .int .i64 3] 49 3 2 _ (by simp) rfl).alloc _
  exact Rd.lit _ #[.int .i64 1, .bool true] 68 2 1 _ (by simp) rfl
theorem names_nil (w : World) : Calls Tryz.prog 25 #[.pointer none] w fun e w' => e = .returned (.tuple #[.slice none 0 0, .int .i64 1]) ∧ w = w' := by
  go_enter Tryz.func25, Tryz.ntmps25
  go_wp2_with fail
  go_ret2
  exact ⟨rfl, rfl⟩
theorem cre_nil (s : Sch) (sv : Value) (w : World) (hv : SchV w s sv) : Calls Tryz.prog 17 #[.pointer none, sv] w fun e w' => e = .returned (.int .i64 1) ∧ Below w.heap.size w w' := by
  obtain ⟨CA, cc, XA, xc, rfl, k1, k2, k3, k4⟩ := hv
  go_enter Tryz.func17, Tryz.ntmps17
  go_wp2_with fail
  refine (names_nil _).mono ?_
  rintro e w' ⟨rfl, rfl⟩
  go_wp2_with fail
  go_ret
  exact ⟨rfl, (Below.refl _ _).alloc (Nat.le_refl _) _⟩
theorem Below.upd {B0 db sb : Nat} {w0 w w' : World} {L : List Chg} (h : Below B0 w0 w) (hB : B0 ≤ w0.heap.size) (hd : DraftAt B0 w db sb L) (hu : Upd db w w') : Below B0 w0 w' :=
  ⟨hu.os.trans h.os, hu.tape.trans h.tape, hu.output.trans h.output, Nat.le_trans h.size hu.size, fun k hk => (hu.same k (by have := h.size; omega) (fun hf => by have := (hd.foot hf).1; omega)).trans (h.block k hk)⟩
theorem Ok.nil : Ok [] := ⟨by simp, by simp, by simp, by simp, by simp, by simp⟩
theorem Rep.nil : Rep [] [] := ⟨by simp [getC_nil], by simp [getC_nil], by simp [getC_nil]⟩
theorem RepN.nil : RepN [] [] := fun i _ => .inl ⟨rfl, rfl⟩
theorem DbAt.new {B0 db sb : Nat} {w : World} (hd : DraftAt B0 w db sb []) (hT : Tabs w) (h3 : 3 ≤ B0) : DbAt B0 w db sb [] [] := ⟨hd, Rep.nil, RepN.nil, Ok.nil, by simp, hT, h3⟩
structure St (B0 : Nat) (w0 w : World) (db sb n : Nat) (D : List Tb) : Prop where
  hB : B0 ≤ w0.heap.size
  b : Below B0 w0 w
  ex : ∃ L, DbAt B0 w db sb L D ∧ L.length ≤ n
section
variable {B0 db sb n : Nat} {w0 w w' : World} {D : List Tb}
theorem St.new (hd : DraftAt w.heap.size w' db sb []) (hb : Below w.heap.size w w') (hT : Tabs w) (h3 : 3 ≤ w.heap.size) : St w.heap.size w w' db sb 0 [] :=
  ⟨Nat.le_refl _, hb, [], DbAt.new hd (hT.below hb) h3, Nat.le_refl _⟩
theorem St.le (h : St B0 w0 w db sb n D) : B0 ≤ w.heap.size := Nat.le_trans h.hB h.b.size
theorem St.below (h : St B0 w0 w db sb n D) (hb : Below w.heap.size w w') : St B0 w0 w' db sb n D := by
  obtain ⟨L, hd, hl⟩ := h.ex
  exact ⟨h.hB, below_then h.b h.le hb, L, hd.below hb, hl⟩
theorem St.post (h : St B0 w0 w db sb n D) {L : List Chg} {E : Int} {D' : List Tb} {e : Ending} (hd : DbAt B0 w db sb L D) (hl : L.length ≤ n) {X : List Chg} (hp : OpPost B0 db sb w L X E D' e w') : e = .returned (.int .i64 E) ∧ St B0 w0 w' db sb (n + 8) D' ∧ Upd db w w' := by
  obtain ⟨L', he, hd', hl', _, hu⟩ := hp.ex
  exact ⟨he, ⟨h.hB, Below.upd h.b h.hB hd.d hu, L', hd', by omega⟩, hu⟩
theorem St.cre (h : St B0 w0 w db sb n D) {s : Sch} {sv : Value} (hn : n ≤ 50000) (hs : rightS s = true) (hv : SchV w s sv) :
    Calls Tryz.prog 17 #[.pointer (some ⟨db, 0, none⟩), sv] w fun e w' => e = .returned (.int .i64 (creE D s)) ∧ St B0 w0 w' db sb (n + 8) (creD D s) ∧ Upd db w w' := by
  obtain ⟨L, hd, hl⟩ := h.ex
  exact (cre_ok B0 db sb L D s sv w hd (by omega) hs hv h.le).mono fun e w' hp => h.post hd hl hp
theorem St.ins (h : St B0 w0 w db sb n D) {nm : ByteArray} {row : List V} {A : Option Addr} {m c : Nat} (hn : n ≤ 50000) (hnm : nm.size ≤ 9223372036854775807) (hrow : RdS B0 w 3 A m (rowCells row)) (hl : row.length = m) (hwf : ∀ v ∈ row, wf64 v.n) (hrs : ∀ v ∈ row, v.s.size ≤ 9223372036854775807) :
    Calls Tryz.prog 19 #[.pointer (some ⟨db, 0, none⟩), .string nm, .slice A m c] w fun e w' => e = .returned (.int .i64 (insE D nm row)) ∧ St B0 w0 w' db sb (n + 8) (insD D nm row) ∧ Upd db w w' := by
  obtain ⟨L, hd, hll⟩ := h.ex
  exact (ins_any B0 db sb L D nm A m c row w hd (by omega) hnm hrow hl hwf hrs h.le).mono fun e w' hp => h.post hd hll hp
theorem St.get (h : St B0 w0 w db sb n D) (nm : ByteArray) (v : V) (hvw : wf64 v.n) (hvs : v.s.size ≤ 4000000) (hnm : nm.size ≤ 9223372036854775807) :
    Calls Tryz.prog 27 #[.pointer (some ⟨db, 0, none⟩), .string nm, v.val] w fun e w' => GetOp w.heap.size D nm v w' e ∧ Below w.heap.size w w' := by
  obtain ⟨L, hd, hll⟩ := h.ex
  exact getop_any B0 db sb L D nm v hvw hvs w hd hnm
end
section
variable {B0 db sb n : Nat} {w0 w w' : World} {D : List Tb}
theorem St.scan (h : St B0 w0 w db sb n D) (nm : ByteArray) (c : Int) (lo hi : V) (limit : Int) (hn : n ≤ 50000) (hnm : nm.size ≤ 9223372036854775807) (hlw : wf64 lo.n) (hls : lo.s.size ≤ 4000000) (hhw : wf64 hi.n) (hhs : hi.s.size ≤ 4000000) :
    Calls Tryz.prog 20 #[.pointer (some ⟨db, 0, none⟩), .string nm, .int .i64 c, lo.val, hi.val, .int .i64 limit] w (ScanPost D nm c lo hi limit w) := by
  obtain ⟨L, hd, hll⟩ := h.ex
  exact scan_any B0 db sb L D nm c lo hi limit w hd (by omega) hnm hlw hls hhw hhs
end
theorem scan_L {R : List (List V)} (h : ScanL ⟨little, [rowL 1 ⟨#[97]⟩]⟩ 0 1 nothing nothing R) : R = [rowL 1 ⟨#[97]⟩] := by
  have hm : ∀ r, r ∈ R ↔ r = rowL 1 ⟨#[97]⟩ := by
    intro r
    rw [h.mem]
    constructor
    · rintro ⟨hr, _⟩
      exact List.mem_singleton.1 hr
    rintro rfl
    exact ⟨List.mem_singleton.2 rfl, by decide +kernel, .inr (by decide +kernel)⟩
  cases hR : R with
  | nil => rw [hR] at hm; exact absurd ((hm _).2 rfl) (by simp)
  | cons a t =>
    have ha := (hm a).1 (by rw [hR]; simp)
    cases t with
    | nil => rw [ha]
    | cons b t =>
      have hb := (hm b).1 (by rw [hR]; simp)
      have hs := h.srt
      rw [hR, ha, hb] at hs
      have := (List.pairwise_cons.1 hs).1 (rowL 1 ⟨#[97]⟩) (List.mem_cons_self ..)
      rw [cmpB_refl] at this
      omega
theorem rowL_wf {k : Int} (hk : wf64 k) (n : ByteArray) : ∀ v ∈ rowL k n, wf64 v.n := by
  intro v hv
  simp only [rowL, List.mem_cons, List.mem_nil_iff, or_false] at hv
  rcases hv with rfl | rfl
  · exact hk
  exact ⟨by show (-9223372036854775808 : Int) ≤ 0; decide, by show (0 : Int) ≤ 9223372036854775807; decide⟩
theorem rowL_small {n : ByteArray} (k : Int) (hn : n.size ≤ 9223372036854775807) : ∀ v ∈ rowL k n, v.s.size ≤ 9223372036854775807 := by
  intro v hv
  simp only [rowL, List.mem_cons, List.mem_nil_iff, or_false] at hv
  rcases hv with rfl | rfl
  · exact Nat.zero_le _
  exact hn
set_option maxHeartbeats 3200000 in
set_option maxRecDepth 1000000 in
theorem told_ok (w : World) (hT : Tabs w) (h3 : 3 ≤ w.heap.size) : Calls Tryz.prog 18 #[] w fun e w' => e = .returned (.bool true) ∧ Below w.heap.size w w' := by
  have HT := hide hT
  have H3 := hide h3
  clear hT h3
  go_enter Tryz.func18, Tryz.ntmps18
  go_wp2_with fail
  refine (lnew_ok _).mono ?_
  rintro e w1 ⟨db, sb, rfl, hd, hb⟩
  have S1 := hide (St.new hd hb HT.out H3.out)
  clear hd hb
  go_wp2_with fail
  refine (little_ok _).mono ?_
  rintro e w2 ⟨sv, rfl, hsv, hb⟩
  have S2 := hide (S1.out.below hb)
  have hcr := S2.out.cre (sv := sv) (s := little) (by omega) little_right hsv
  rw [creE_L, creD_L] at hcr
  have Hcr := hide hcr
  clear hcr hsv hb S1
  go_wp2_with fail
  refine Hcr.out.mono ?_
  rintro e w3 ⟨rfl, hs3, hu⟩
  have S3 := hide hs3
  clear hs3 hu Hcr S2
  go_wp2_with fail
  refine (row_ok _ _ _).mono ?_
  rintro e w4 ⟨A4, c4, rfl, hown, hb⟩
  have S4 := hide (S3.out.below hb)
  have hin := S4.out.ins (nm := ⟨#[116]⟩) (row := rowL 1 ⟨#[97]⟩) (A := A4) (m := 2) (c := c4) (by omega) (by decide) (RdS.of_own hown (by decide) (by decide)) rfl (rowL_wf ⟨by decide, by decide⟩ _) (rowL_small _ (by decide))
  rw [ins1_L, ins1D_L] at hin
  have Hin := hide hin
  clear hin hown hb S3
  go_wp2_with fail
  refine Hin.out.mono ?_
  rintro e w5 ⟨rfl, hs5, hu⟩
  have S5 := hide hs5
  clear hs5 hu Hin S4
  go_wp2_with fail
  refine (row_ok _ _ _).mono ?_
  rintro e w6 ⟨A6, c6, rfl, hown, hb⟩
  have S6 := hide (S5.out.below hb)
  have hin := S6.out.ins (nm := ⟨#[116]⟩) (row := rowL 2 ⟨#[97]⟩) (A := A6) (m := 2) (c := c6) (by omega) (by decide) (RdS.of_own hown (by decide) (by decide)) rfl (rowL_wf ⟨by decide, by decide⟩ _) (rowL_small _ (by decide))
  rw [insD, ins2_L, if_neg (by decide)] at hin
  have Hin := hide hin
  clear hin hown hb S5
  go_wp2_with fail
  refine Hin.out.mono ?_
  rintro e w7 ⟨rfl, hs7, hu⟩
  have S7 := hide hs7
  clear hs7 hu Hin S6
  go_wp2_with fail
  refine (row_ok _ _ _).mono ?_
  rintro e w8 ⟨A8, c8, rfl, hown, hb⟩
  have S8 := hide (S7.out.below hb)
  have hin := S8.out.ins (nm := ⟨#[116]⟩) (row := rowL 1 ⟨#[98]⟩) (A := A8) (m := 2) (c := c8) (by omega) (by decide) (RdS.of_own hown (by decide) (by decide)) rfl (rowL_wf ⟨by decide, by decide⟩ _) (rowL_small _ (by decide))
  rw [insD, ins3_L, if_neg (by decide)] at hin
  have Hin := hide hin
  clear hin hown hb S7
  go_wp2_with fail
  refine Hin.out.mono ?_
  rintro e w9 ⟨rfl, hs9, hu⟩
  have S9 := hide hs9
  clear hs9 hu Hin S8
  have hg := S9.out.get ⟨#[116]⟩ ⟨1, 1, ⟨#[]⟩⟩ ⟨by decide, by decide⟩ (by decide) (by decide)
  unfold GetOp at hg
  rw [find_L] at hg
  have hh : ∀ w' e, HeldP w9.heap.size ⟨little, [rowL 1 ⟨#[97]⟩]⟩ ⟨1, 1, ⟨#[]⟩⟩ w' e → ∃ A c, e = .returned (.tuple #[.slice A 2 c, .int .i64 0]) ∧ w'.ownsRow w9.heap.size 28 3 (.slice A 2 c) 2 (rowCells (rowL 1 ⟨#[97]⟩)) := fun w' e h => by
    rw [HeldP, if_pos (by decide +kernel)] at h
    obtain ⟨r, A, c, hw, he, ho⟩ := h
    rw [was_L] at hw
    obtain rfl := Option.some.inj hw
    exact ⟨A, c, he, ho⟩
  have hg2 : Calls Tryz.prog 27 #[.pointer (some ⟨db, 0, none⟩), .string ⟨#[116]⟩, .agg #[.int .i64 1, .int .i64 1, .string ⟨#[]⟩]] w9 _ := hg.mono fun e w' h => (⟨hh w' e h.1, h.2⟩ : (∃ A c, e = .returned (.tuple #[.slice A 2 c, .int .i64 0]) ∧ w'.ownsRow w9.heap.size 28 3 (.slice A 2 c) 2 (rowCells (rowL 1 ⟨#[97]⟩))) ∧ Below w9.heap.size w9 w')
  have Hg2 := hide hg2
  clear hg hh hg2
  go_wp2_with fail
  refine Hg2.out.mono ?_
  rintro e w10 ⟨⟨A10, c10, rfl, hown⟩, hb⟩
  have S10 := hide (S9.out.below hb)
  have HR := hide (Rd.of_own hown)
  clear hown hb Hg2 S9
  have hsc := S10.out.scan ⟨#[116]⟩ 1 nothing nothing 4 (by omega) (by decide) ⟨by decide, by decide⟩ (by decide) ⟨by decide, by decide⟩ (by decide)
  have hh : ∀ w' e, ScanPost (dL [rowL 1 ⟨#[97]⟩]) ⟨#[116]⟩ 1 nothing nothing 4 w10 e w' → (∃ A c, e = .returned (.tuple #[.slice A 1 c, .int .i64 0])) ∧ Below w10.heap.size w10 w' := fun w' e h => by
    obtain ⟨h1, h2⟩ := h
    rw [find_L] at h1
    simp only [scanE_L, if_true] at h1
    obtain ⟨R, A, c, hR, he, _⟩ := h1
    have := scan_L hR
    subst this
    exact ⟨⟨A, c, he⟩, h2⟩
  have hsc2 : Calls Tryz.prog 20 #[.pointer (some ⟨db, 0, none⟩), .string ⟨#[116]⟩, .int .i64 1, .agg #[.int .i64 0, .int .i64 0, .string ⟨#[]⟩], .agg #[.int .i64 0, .int .i64 0, .string ⟨#[]⟩], .int .i64 4] w10 _ := hsc.mono fun e w' h => hh w' e h
  have Hsc := hide hsc2
  clear hsc hh hsc2
  go_wp2_with fail
  refine Hsc.out.mono ?_
  rintro e w11 ⟨⟨A11, c11, rfl⟩, hb⟩
  have S11 := hide (S10.out.below hb)
  obtain ⟨b, o, rfl, hc⟩ := (HR.out.below hb).some_ (by omega)
  have q : C w11 b (o + 5) (.string ⟨#[97]⟩) := hc 5 (by decide)
  clear hc HR hb Hsc S10
  go_wp2_with fail
  refine (little_ok _).mono ?_
  rintro e w12 ⟨sv2, rfl, hsv, hb⟩
  have S12 := hide (S11.out.below hb)
  have Hcn := hide (cre_nil little sv2 _ hsv)
  clear hsv hb S11 q
  go_wp2_with fail
  refine Hcn.out.mono ?_
  rintro e w13 ⟨rfl, hb⟩
  have S13 := hide (S12.out.below hb)
  have hin := S13.out.ins (nm := ⟨#[117]⟩) (row := []) (A := none) (m := 0) (c := 0) (by omega) (by decide) (RdS.nil _ _ _ _) rfl (by simp) (by simp)
  rw [insD, insu_L, if_neg (by decide)] at hin
  have Hin := hide hin
  clear hin hb Hcn S12
  go_wp2_with fail
  refine Hin.out.mono ?_
  rintro e w14 ⟨rfl, hs14, hu⟩
  have HB := hide hs14.b
  clear hs14 hu Hin S13
  go_wp2_with fail
  go_ret
  exact ⟨rfl, HB.out⟩
end Go.Proofs.YtekokogmnhlchaaGreatDoor
