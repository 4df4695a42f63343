import Derived.Test.YtekokogmnhlchaaGreatDoorA9
import Derived.Deep.RegionLaw
import Derived.WalkMore
set_option linter.unusedSimpArgs false
set_option linter.unusedVariables false
set_option linter.unusedSectionVars false
namespace Go.Proofs.YtekokogmnhlchaaGreatDoor
open Go.RowKit Go.Maps
theorem map_row {w : World} {P : Program} {k : TypeId} {R : Value → Option (DataW Value × List MemPlace)} {b n : Nat} {D : DataW Value} (h : w.ownsMap P k R b n D) : ∀ q, some b = some q → ∀ (cs : Array Value) (fr : Nat × Nat), w.heap[q]? ≠ some (Obj.cells cs 5 fr) := by
  intro q hq cs fr hc
  injection hq with hq
  subst hq
  obtain ⟨es, clock, hb, _⟩ := h
  rw [hb] at hc
  cases hc
theorem iter_row {w : World} {P : Program} {k : TypeId} {R : Value → Option (DataW Value × List MemPlace)} {b r n cnt : Nat} {D : DataW Value} {left : Lit → Bool} (h : w.ranges P k R b r n D left cnt) : ∀ q, some r = some q → ∀ (cs : Array Value) (fr : Nat × Nat), w.heap[q]? ≠ some (Obj.cells cs 5 fr) := by
  intro q hq cs fr hc
  injection hq with hq
  subst hq
  obtain ⟨es, clock, since, seen, c0, _, _, _, _, hr, _⟩ := h
  rw [hr] at hc
  cases hc
theorem own_row {w : World} {base e k n : Nat} {v : Value} {xs : List Value} (h : w.ownsRow base e k v n xs) (he : e ≠ 5) : ∀ q, v.ownBlock = some q → ∀ (cs : Array Value) (fr : Nat × Nat), w.heap[q]? ≠ some (Obj.cells cs 5 fr) := by
  intro q hq cs fr hc
  obtain ⟨_, cs', h1⟩ := own_block_cases h hq
  rw [h1] at hc
  injection hc with hc
  injection hc with _ hc _
  exact he hc
theorem PrAt.grown {w w' : World} {p : PR} {row : Option Nat} (h : PrAt w p) (hg : w.grownBy w' row) (hr : ∀ q, row = some q → ∀ (cs : Array Value) (fr : Nat × Nat), w.heap[q]? ≠ some (Obj.cells cs 5 fr)) : PrAt w' p :=
  h.keep fun b cs fr hc => (hg.block b (Array.getElem?_eq_some_iff.1 hc).1 (fun e => hr b e.symm cs fr hc)).trans hc
theorem PrAt.below {w w' : World} {p : PR} (h : PrAt w p) (hb : Below w.heap.size w w') : PrAt w' p := h.keep fun b cs fr hc => (hb.block b (Array.getElem?_eq_some_iff.1 hc).1).trans hc
theorem own_sep {w : World} {base e k n : Nat} {v : Value} {xs : List Value} (h : w.ownsRow base e k v n xs) {b : Nat} (hb : b < base) : v.ownBlock = none ∨ v.ownBlock ≠ some b := .inr fun he => by
  have := (h.lt b he).1
  omega
theorem bget_iff {L : List Chg} {sp : Int} {lo hi key v : List UInt8} : bget L sp lo hi key = some v ↔ getC L sp key = some v ∧ inB lo hi key := by
  unfold bget
  split
  · rename_i h; exact ⟨fun e => ⟨e, h⟩, fun e => e.1⟩
  rename_i h; exact ⟨fun e => (by cases e), fun e => absurd e.2 h⟩
theorem range_done {L : List Chg} {sp : Int} {lo hi : List UInt8} {OL l' : List PR} (hp : l'.Perm OL) (hs : l'.Pairwise fun a b => ¬ cmpB b.key a.key < 0) (hd : OL.Pairwise fun a b => a.key ≠ b.key)
    (h1 : ∀ p ∈ OL, bget L sp lo hi p.key = some p.val) (h2 : ∀ key val, bget L sp lo hi key = some val → ∃ p ∈ OL, p.key = key) : RangeL L sp lo hi (l'.map fun p => (p.key, p.val)) := by
  constructor
  · rw [List.pairwise_map]
    have hd' : l'.Pairwise fun a b => a.key ≠ b.key := (hp.pairwise_iff (fun {_ _} h => Ne.symm h)).2 hd
    refine (hs.and hd').imp fun {a b} h => ?_
    have h3 := cmpB_swap a.key b.key
    have h4 : cmpB a.key b.key ≠ 0 := fun e => h.2 (cmpB_zero e)
    have := h.1
    simp only
    omega
  intro k v
  rw [← bget_iff]
  constructor
  · intro hm
    obtain ⟨p, hpm, e⟩ := List.mem_map.1 hm
    simp only [Prod.mk.injEq] at e
    obtain ⟨rfl, rfl⟩ := e
    exact h1 p (hp.mem_iff.1 hpm)
  intro hb
  obtain ⟨p, hpm, rfl⟩ := h2 k v hb
  have := h1 p hpm
  rw [hb] at this
  exact List.mem_map.2 ⟨p, hp.mem_iff.2 hpm, by rw [Option.some.inj this]⟩
def RangePost (L : List Chg) (sp : Int) (lo hi : List UInt8) (most : Nat) (w : World) (e : Ending) (w' : World) : Prop :=
  ∃ (l : List PR) (A' : Option Addr) (c' : Nat), e = .returned (.tuple #[.slice A' (min l.length most) c', .int .i64 0]) ∧ RangeL L sp lo hi (l.map fun p => (p.key, p.val)) ∧ Rd w' 3 A' (min l.length most) ((l.take most).flatMap (prCells sp)) ∧ (∀ p ∈ l, PrAt w' p) ∧ Below w.heap.size w w'
set_option maxHeartbeats 1600000 in
set_option maxRecDepth 100000 in
theorem drange_any (B0 db sb : Nat) (L : List Chg) (sp : Int) (A B : Option Addr) (n c m d : Nat) (lo hi : List UInt8) (most : Nat) (w : World) (hd : DraftAt B0 w db sb L) (hlo : RB w A n lo) (hhi : RB w B m hi)
    (h : 0 ≤ sp) (h2 : sp < 16) (hn : n ≤ 60) (hm : m ≤ 60) (hL : L.length ≤ 100000) (hval : ∀ x ∈ L, x.val.length ≤ 1800 ∧ x.key.length ≤ 60) (hmo : most ≤ 1000) :
    Calls Tryz.prog 71 #[.pointer (some ⟨db, 0, none⟩), .int .i64 sp, .slice A n c, .slice B m d, .int .i64 most] w (RangePost L sp lo hi most w) := by
  have Hd := hide hd
  obtain ⟨A1, c1, xs, hd0, hB, hown, hE, hs⟩ := hd
  have g0 := cells_of_blk hd0 0 (v := .pointer (some ⟨sb, 0, none⟩)) rfl
  have g1 := cells_of_blk hd0 1 (v := .slice A1 L.length c1) rfl
  have HR := hide (Rd.of_own hown)
  have HE := hide hE
  have hmin : min (most : Int) 0 = 0 := by omega
  have Hval := hide hval
  have Hlo := hide hlo
  have Hhi := hide hhi
  have hs' := hide hs
  clear hd0 hown hE hs hval hlo hhi
  have hmm := @run_makeMap Tryz.prog
  go_enter Tryz.func71, Tryz.ntmps71
  go_wp2_with fail
  go_step3
  go_wp2_with fail
  refine (srange_any sb sp _ _ _ _ _ _ _ _ 0 _ hs'.out.at_ Hlo.out (bys_one lo) Hhi.out (bys_one hi) h h2 hn hm (by omega)).mono ?_
  rintro e W1 ⟨rfl, hb1⟩
  have k0 := g0.below hb1
  have hs1 := hs'.out.below hb1
  have Hb1 := hide hb1
  clear hb1
  go_wp2_with fail
  refine (srange_any sb sp _ _ _ _ _ _ _ _ 1073741824 _ hs1.at_ (Hlo.out.below Hb1.out) (bys_one lo) (Hhi.out.below Hb1.out) (bys_one hi) h h2 hn hm (by omega)).mono ?_
  rintro e W2 ⟨rfl, hb2⟩
  have Hb2 := hide (below_chain Hb1.out hb2)
  clear hb2 Hb1 k0 hs1
  go_wp2_with fail
  refine wp_loop_rounds 1 ?_
  rw [rounds_succ]
  go_wp2_with fail
  have hM0 := World.ownsMap_made W2 Tryz.prog 9 heldR
  have hB3 := hide (Hb2.out.alloc Hb2.out.size (.map #[] 0))
  have hI0 := hide (MapIs.ext (g' := bget (L.take 0) sp lo hi) (MapIs.empty (W2.alloc (.map #[] 0))) (fun k => by rw [List.take_zero, bget_nil]))
  have hz3 : W2.heap.size + 1 ≤ (W2.alloc (.map #[] 0)).heap.size := by simp
  have hwm : w.heap.size ≤ W2.heap.size := Hb2.out.size
  have g1' := g1.below (Hb2.out.alloc Hb2.out.size (.map #[] 0))
  obtain ⟨LL, hLL⟩ : ∃ LL, L.length = LL := ⟨_, rfl⟩
  have hLL' := hide hLL
  rw [hLL] at g1 g1' hL
  have HR' := HR.out
  rw [hLL] at HR'
  have HR2 := hide HR'
  clear hLL HR' HR
  generalize W2.heap.size = mb at *
  generalize W2.alloc (.map #[] 0) = W3 at *
  clear Hb2
  go_step3
  go_wp2_with fail
  clear g1'
  go_loopw [73] (fun i wr => ∃ (k nn : Nat) (D : DataW Value), k ≤ LL ∧ i = .int .i64 k ∧ nn ≤ k ∧ Hid (wr.ownsMap Tryz.prog 9 heldR mb nn D) ∧ Hid (MapIs wr D (bget (L.take k) sp lo hi)) ∧ Hid (Below w.heap.size w wr) ∧ mb + 1 ≤ wr.heap.size) (fun i _ => LL - (intOf i).toNat)
  case atStart => exact ⟨0, 0, _, Nat.zero_le _, rfl, Nat.le_refl _, hide hM0, hI0, hB3, hz3⟩
  case round =>
    clear hM0 hI0 hB3 hz3
    obtain ⟨k, nn, D, hk, rfl, hnn, HM, HI, HB, hsz⟩ := hrel
    by_cases hlt : k < LL
    rotate_left
    · have hke : LL = k := by omega
      subst hke
      have hall : L.take LL = L := List.take_of_length_le (by have := hLL'.out; omega)
      have hI := HI.out
      rw [hall] at hI
      have HI2 := hide hI
      have hnnL : nn ≤ 100000 := by omega
      have hszD : Maps.size D ≤ nn := HM.out.size_le
      have Hsz := hide hszD
      clear hall hI HI HE Hval Hlo Hhi hLL' HR2 g0 g1 hs' Hd hszD
      go_wp2_with (first
        | (at_range; refine wpList_range_own _ rfl _ 194 rfl 9 105 lawS Tryz.underlying194 heldR mb nn D rfl HM.out ?_; intro w0 hrg0 hg0 hs0)
        | fail)
      go_frame
      have hHas : Hid (∀ key val, bget L sp lo hi key = some val → Maps.has D (.string key) = true) := hide fun key val hb => by
        have := HI2.out key
        rw [hb] at this
        obtain ⟨A', n', c', _, hz⟩ := this
        exact has_true_of_atKey hz
      have hI0 := hide (HI2.out.grown hg0 (fun q hq => by cases hq))
      have hB0 := hide (HB.out.grown hg0 HB.out.size (fun q hq => by cases hq))
      have hsz0 : mb + 1 ≤ wr.heap.size := hsz
      have hs0' : wr.heap.size + 1 ≤ w0.heap.size := by omega
      clear HM HI2 HB hg0 hs0
      generalize wr.heap.size = rz at *
      go_loopw [21] (fun out wx => ∃ (left : Lit → Bool) (cnt : Nat) (OL : List PR) (A' : Option Addr) (c' : Nat), wx.ranges Tryz.prog 9 heldR mb rz nn D left cnt ∧ out = .slice A' OL.length c' ∧ OL.length + cnt ≤ nn ∧ Hid (wx.ownsRow (rz + 1) 132 3 (.slice A' OL.length c') OL.length (OL.flatMap (prCells sp))) ∧ Hid (∀ p ∈ OL, PrAt wx p) ∧ Hid (OL.Pairwise fun a b => a.key ≠ b.key) ∧ Hid (∀ p ∈ OL, left (.string p.key) = false) ∧ Hid (∀ key val, bget L sp lo hi key = some val → left (.string key) = false → ∃ p ∈ OL, p.key = key) ∧ Hid (∀ p ∈ OL, bget L sp lo hi p.key = some p.val) ∧ Hid (MapIs wx D (bget L sp lo hi)) ∧ Hid (Below w.heap.size w wx) ∧ rz + 1 ≤ wx.heap.size)
        (fun _ wx => wx.rangeLeft mb rz)
      case atStart => exact ⟨_, _, [], none, 0, hrg0, rfl, by have := Hsz.out; simp; omega, hide (World.ownsRow_nil _ _ _ _), hide (by simp), hide List.Pairwise.nil, hide (by simp), hide (fun key val hb hl => by rw [hHas.out key val hb] at hl; cases hl), hide (by simp), hI0, hB0, hs0'⟩
      case round =>
        clear hrg0 hI0 hB0 hs0' hHas Hsz
        obtain ⟨left, cnt, OL, A', c', hrg, rfl, hcs, HO, HP, HD, HL1, HL2, HG, HI, HB, hszx⟩ := hrel
        go_wp2_with (first
          | (at_next; refine wpList_next_ranges _ rfl _ rfl 9 lawS heldR Value.string (fun v : Value => v) (fun key kl hk => keyS_inv hk) (fun v y _ => ⟨v, rfl⟩) mb rz nn D left cnt rfl hrg ?_ ?_)
          | fail)
        · intro hc0 hl0
          have hdone := fun l' (hp : List.Perm l' OL) hs => range_done (L := L) (sp := sp) (lo := lo) (hi := hi) hp hs HD.out HG.out (fun key val hb => HL2.out key val hb (hl0 _))
          have Hdone := hide hdone
          clear hdone hrg hl0 HL1 HL2 HG HD HI
          have hOn : OL.length < 1000000 := by omega
          obtain ⟨on, hon⟩ : ∃ on, OL.length = on := ⟨_, rfl⟩
          rw [hon] at hcs HO hOn ⊢
          have HON := hide hon
          clear hon
          go_wp2_with fail
          refine (psort_any sp (rz + 1) A' on c' OL _ HON.out HP.out HO.out hOn).mono ?_
          rintro e w6 ⟨rfl, l', hp, hs, hO6, hg6⟩
          have hrow := own_row HO.out (by decide)
          have hP6 : ∀ p ∈ l', PrAt w6 p := fun p hm => (HP.out p (hp.mem_iff.1 hm)).grown hg6 hrow
          have hB6 := HB.out.grown hg6 HB.out.size (fun q hq => by have := (HO.out.lt q hq).1; have := HB.out.size; omega)
          have hln : l'.length = on := hp.length_eq.trans HON.out
          have hRd := Rd.take_ (prCells_len sp) l' hln (Rd.of_own hO6) (min on most) (by omega)
          have htk : l'.take (min on most) = l'.take most := by rw [List.take_eq_take_iff, hln]; omega
          rw [htk] at hRd
          have hR := Hdone.out l' hp (by simpa using hs)
          have hnc6 : on ≤ c' := by
            obtain ⟨_, _, hv6, hnc6, _⟩ := own_form hO6
            injection hv6 with _ _ hv6
            omega
          have HP6 := hide hP6
          have HB6 := hide hB6
          have HRd := hide hRd
          have HRR := hide hR
          have Hln := hide hln
          have hmm2 : min (on : Int) (most : Int) = ((min on most : Nat) : Int) := by omega
          have hmle : min on most ≤ c' := by omega
          have hmle2 : min on most ≤ on := by omega
          clear hP6 hB6 hRd hR hln hp hs hO6 hg6 hrow htk HP HO HB Hdone hcs HON
          go_wp2_with fail
          rw [Exit.noGoto_ret]
          go_ret2
          refine ⟨l', A', c', ?_, HRR.out, ?_, HP6.out, HB6.out⟩
          · rw [Hln.out]; rfl
          rw [Hln.out]; exact HRd.out
        intro x cv kl yd yp w1 cnt1 hkey hlk hRv hat hrg1 hltc hg1 hs1 hen
        have hkl := keyS_eq hkey
        subst hkl
        have hyd : yd = .held cv := by
          have : (some (.held cv, []) : Option (DataW Value × List MemPlace)) = some (yd, yp) := hRv
          simp at this
          exact this.1.symm
        subst hyd
        have hb := HI.out x.data.toList
        cases hbg : bget L sp lo hi x.data.toList with
        | none =>
          rw [hbg] at hb
          have h1 := hb .nil
          rw [hat .nil] at h1
          cases h1
        | some val =>
          rw [hbg] at hb
          obtain ⟨Av, vn, vc, hrv, hz⟩ := hb
          have hcv : cv = .slice Av vn vc := by
            have h1 := hz .nil
            rw [hat .nil] at h1
            injection h1
          subst hcv
          have hrow := iter_row hrg
          have hrv1 := hrv.grown hg1 hrow
          have hO1 := HO.out.kept hg1 (own_sep HO.out (Nat.lt_succ_self rz))
          obtain ⟨Ak, ck, w2, hcvx, hrk, hb2, hck⟩ := run_conv5 w1 x
          have hI2 := (HI.out.grown hg1 hrow).below hb2
          have hP2 : ∀ p ∈ OL, PrAt w2 p := fun p hp => ((HP.out p hp).grown hg1 hrow).below hb2
          have hrv2 := hrv1.below hb2
          have hO2 := own_below hO1 hb2
          have hB2 := below_then (HB.out.grown hg1 HB.out.size (fun q hq => by injection hq with hq; have := HB.out.size; omega)) (Nat.le_trans HB.out.size hg1.size) hb2
          have hrg2 := hrg1.kept (row := none) ⟨hb2.os, hb2.tape, hb2.output, hb2.size, fun k hk _ => hb2.block k hk⟩ (by simp) (by simp)
          have hz2 : rz + 1 ≤ w2.heap.size := by have h1 := hb2.size; have h2 := hg1.size; omega
          have HO2 := hide hO2
          have HI2 := hide hI2
          have HP2 := hide hP2
          have HB2 := hide hB2
          have HRG2 := hide hrg2
          have HRV2 := hide hrv2
          have HRK2 := hide hrk
          have Hbg := hide hbg
          have Hlk := hide hlk
          have hrank := hrg.left_eq
          have Hrank := hide hrank
          clear hrv hz hrow hrv1 hO1 hI2 hP2 hrv2 hO2 hB2 hrg2 hrk hbg hlk hb2 hat hRv hkey hrg1 hg1 hs1 HO HP HI HB hrg hrank
          have hol : OL.length + 1 ≤ 4294967296 := by omega
          go_wp2_with (first
            | (at_builtin; refine wp_lit pairT rfl rfl HO2.out rfl rfl (by simp) (by rfl) (by simp [Value.oneCell']) hol (by omega) hz2 ?_; intro A5 c5 w5 hown5 hb5 hg5)
            | fail)
          have hmb : mb < rz + 1 := by omega
          have hrow5 := own_row HO2.out (by decide)
          have hrg5 := HRG2.out.kept hg5 (own_out HO2.out hmb) (own_out HO2.out (Nat.lt_succ_self rz))
          have hnew : PrAt w2 ⟨x.data.toList, val, .slice Ak x.size ck, .slice Av vn vc⟩ := ⟨⟨Ak, x.size, ck, rfl, HRK2.out, hck⟩, Av, vn, vc, rfl, HRV2.out⟩
          have hmem : ∀ p, p ∈ OL ++ [(⟨x.data.toList, val, .slice Ak x.size ck, .slice Av vn vc⟩ : PR)] ↔ p ∈ OL ∨ p = ⟨x.data.toList, val, .slice Ak x.size ck, .slice Av vn vc⟩ := fun p => by simp
          refine ⟨⟨_, cnt1, OL ++ [⟨x.data.toList, val, .slice Ak x.size ck, .slice Av vn vc⟩], A5, c5, hrg5, by simp, by simp; omega, hide ?_, hide ?_, hide ?_, hide ?_, hide ?_, hide ?_, hide (HI2.out.grown hg5 hrow5), hide (HB2.out.trans (hb5.mono (by have := HB2.out.size; omega))), by have := hg5.size; omega⟩, ?_⟩
          · simpa [prCells] using hown5
          · intro p hp
            rcases (hmem p).1 hp with hp | rfl
            · exact (HP2.out p hp).grown hg5 hrow5
            exact hnew.grown hg5 hrow5
          · rw [List.pairwise_append]
            refine ⟨HD.out, by simp, fun a ha b hb => ?_⟩
            obtain rfl := List.mem_singleton.1 hb
            intro he
            have h1 := HL1.out a ha
            rw [he] at h1
            have h2 := Hlk.out
            rw [h1] at h2
            cases h2
          · intro p hp
            rcases (hmem p).1 hp with hp | rfl
            · rw [HL1.out p hp]; rfl
            simp [Lit.sameKey]
          · intro key v hb hl
            by_cases hk : key = x.data.toList
            · exact ⟨_, (hmem _).2 (.inr rfl), hk.symm⟩
            rw [sameKey_ne (str_ne hk)] at hl
            obtain ⟨p, hp, e⟩ := HL2.out key v hb (by simpa using hl)
            exact ⟨p, (hmem _).2 (.inl hp), e⟩
          · intro p hp
            rcases (hmem p).1 hp with hp | rfl
            · exact HG.out p hp
            exact Hbg.out
          rw [hrg5.left_eq, Hrank.out]; exact hltc
    have hkl : k < L.length := by have := hLL'.out; omega
    obtain ⟨v, hv4, hP, hcell⟩ := HE.out.at_ k hkl
    obtain ⟨x, hx⟩ : ∃ x, L[k] = x := ⟨_, rfl⟩
    have hxm : x ∈ L := by rw [← hx]; exact List.getElem_mem _
    have htk : L.take (k + 1) = L.take k ++ [x] := by rw [← hx]; simp
    rw [hx] at hP
    obtain ⟨KA, kn, kc, VA, vn, vc, rfl, hk1, hv1⟩ := hP
    obtain ⟨b, o, rfl, hcs⟩ := (HR2.out.below HB.out).some_ (by omega)
    have hxl := HR2.out.1
    have hvx := Hval.out x hxm
    obtain ⟨xs', xk, xv, xg⟩ := x
    simp only at hk1 hv1 hvx
    have e0 : C wr b (o + k * 4) (.int .i64 xs') := by
      have y1 := hcs (k * 4 + 0) (by omega)
      rw [hcell 0 (by omega)] at y1
      exact y1
    have e1 : C wr b (o + k * 4 + 1) (.slice KA kn kc) := by
      have y1 := hcs (k * 4 + 1) (by omega)
      rw [hcell 1 (by omega)] at y1
      exact y1
    have e2 : C wr b (o + k * 4 + 2) (.slice VA vn vc) := by
      have y1 := hcs (k * 4 + 2) (by omega)
      rw [hcell 2 (by omega)] at y1
      exact y1
    have e3 : C wr b (o + k * 4 + 3) (.bool xg) := by
      have y1 := hcs (k * 4 + 3) (by omega)
      rw [hcell 3 (by omega)] at y1
      exact y1
    have hal := (Below.refl wr.heap.size wr).alloc (Nat.le_refl _) (.cells #[.int .i64 xs', .slice KA kn kc, .slice VA vn vc, .bool xg] 155)
    have n0 := C.new wr #[.int .i64 xs', .slice KA kn kc, .slice VA vn vc, .bool xg] 155 0 (v := .int .i64 xs') rfl
    have n1 := C.new wr #[.int .i64 xs', .slice KA kn kc, .slice VA vn vc, .bool xg] 155 1 (v := .slice KA kn kc) rfl
    have n2 := C.new wr #[.int .i64 xs', .slice KA kn kc, .slice VA vn vc, .bool xg] 155 2 (v := .slice VA vn vc) rfl
    have n3 := C.new wr #[.int .i64 xs', .slice KA kn kc, .slice VA vn vc, .bool xg] 155 3 (v := .bool xg) rfl
    have hbw := below_then HB.out HB.out.size hal
    have rk := hide (hk1.rd.below hbw)
    have rv := hide (hv1.rd.below hbw)
    have rlo := hide (Hlo.out.below hbw)
    have rhi := hide (Hhi.out.below hbw)
    have HM1 := hide (HM.out.alloc (.cells #[.int .i64 xs', .slice KA kn kc, .slice VA vn vc, .bool xg] 155))
    have HI1 := hide (HI.out.below hal)
    have HB1 := hide hbw
    have hsz1 := hal.size
    have Htk := hide htk
    have hkn := RB.len hk1.rd
    have hvn := RB.len hv1.rd
    have Hmem := hide hxm
    clear hcs hcell hk1 hv1 hal hbw hx hxm htk HM HI HB hv4
    generalize hW : wr.alloc (.cells #[.int .i64 xs', .slice KA kn kc, .slice VA vn vc, .bool xg] 155) = W at *
    by_cases hsp : xs' = sp
    rotate_left
    · have t1 : (xs' != sp) = true := by simpa using hsp
      have hg : ∀ key, bget (L.take (k + 1)) sp lo hi key = bget (L.take k) sp lo hi key := fun key => by rw [Htk.out]; exact bget_skip _ _ _ _ _ _ (fun hc => hsp hc.1)
      have HI2 := hide (HI1.out.ext hg)
      clear hg HI1
      subst hW
      go_wp2_with fail
      exact ⟨⟨k + 1, nn, D, hlt, by go_num, by omega, HM1, HI2, HB1, by omega⟩, by simp [intOf]; omega⟩
    subst hsp
    by_cases hl0 : cmpB xk lo < 0
    · have hg : ∀ key, bget (L.take (k + 1)) xs' lo hi key = bget (L.take k) xs' lo hi key := fun key => by rw [Htk.out]; exact bget_skip _ _ _ _ _ _ (fun hc => hc.2.1 hl0)
      have HI2 := hide (HI1.out.ext hg)
      clear hg HI1
      subst hW
      go_wp2_with (first
        | (go_at_call 97; refine (bcompare_any KA A kn kc n c xk lo _ rk.out rlo.out).mono ?_; rintro e w' ⟨rfl, rfl⟩)
        | fail)
      exact ⟨⟨k + 1, nn, D, hlt, by go_num, by omega, HM1, HI2, HB1, by omega⟩, by simp [intOf]; omega⟩
    by_cases hhi : 0 < m ∧ 0 ≤ cmpB xk hi
    · have hg : ∀ key, bget (L.take (k + 1)) xs' lo hi key = bget (L.take k) xs' lo hi key := fun key => by
        rw [Htk.out]
        refine bget_skip _ _ _ _ _ _ (fun hc => ?_)
        rcases hc.2.2 with h1 | h1
        · have h3 : hi.length = m := RB.len Hhi.out
          rw [h1] at h3
          have h4 := hhi.1
          simp only [List.length_nil] at h3
          omega
        have h5 : cmpB xk hi < 0 := h1
        have := hhi.2; omega
      have HI2 := hide (HI1.out.ext hg)
      obtain ⟨hm0, hh0⟩ := hhi
      have hm0' : (0 : Int) < (m : Int) := by omega
      clear hg HI1
      subst hW
      go_wp2_with (first
        | (go_at_call 97; refine (bcompare_any KA A kn kc n c xk lo _ rk.out rlo.out).mono ?_; rintro e w' ⟨rfl, rfl⟩)
        | (go_at_call 97; refine (bcompare_any KA B kn kc m d xk hi _ rk.out rhi.out).mono ?_; rintro e w' ⟨rfl, rfl⟩)
        | fail)
      exact ⟨⟨k + 1, nn, D, hlt, by go_num, by omega, HM1, HI2, HB1, by omega⟩, by simp [intOf]; omega⟩
    have hin : inB lo hi xk := ⟨hl0, by
      rcases Nat.eq_zero_or_pos m with h0 | h0
      · left
        have := RB.len Hhi.out
        exact List.eq_nil_of_length_eq_zero (by omega)
      right
      exact Classical.byContradiction fun hc => hhi ⟨h0, by omega⟩⟩
    have hhi2 : ¬ (0 < m ∧ 0 ≤ cmpB xk hi) := hhi
    have Hin := hide hin
    have hcv := conv_str rk.out kc
    have hks : keyOf Tryz.prog 9 (.string (strB xk)) = some (.string xk) := keyS xk (by omega)
    clear hin
    cases xg
    · have hg : ∀ key, (if key = xk then some xv else bget (L.take k) xs' lo hi key) = bget (L.take (k + 1)) xs' lo hi key := fun key => by rw [Htk.out, bget_snoc _ _ _ _ _ _ rfl Hin.out]; rfl
      have Hg := hide hg
      clear hg
      have HCL : Hid (Calls Tryz.prog 70 #[.slice VA vn vc] W.drew fun e w' => ∃ A' c', e = .returned (.slice A' vn c') ∧ w'.ownsRow W.drew.heap.size 5 1 (.slice A' vn c') vn (bys xv) ∧ Below W.drew.heap.size W.drew w') := hide (bclone2 VA vn vc xv W.drew rv.out.drew (by omega))
      have hM3 : ∀ w3, Below W.heap.size W w3 → w3.ownsMap Tryz.prog 9 heldR mb nn D := fun w3 hb => HM1.out.kept (row := none) ⟨hb.os, hb.tape, hb.output, hb.size, fun k hk _ => hb.block k hk⟩ (by simp)
      have hmbW : mb < W.heap.size := by omega
      have hcvd := conv_str rk.out.drew kc
      subst hW
      by_cases hm0 : 0 < m
      · have hm0' : (0 : Int) < (m : Int) := by omega
        have hh0 : ¬ 0 ≤ cmpB xk hi := fun hc => hhi2 ⟨hm0, hc⟩
        go_wp2_with (first
          | (go_at_call 97; refine (bcompare_any KA A kn kc n c xk lo _ rk.out rlo.out).mono ?_; rintro e w' ⟨rfl, rfl⟩)
          | (go_at_call 97; refine (bcompare_any KA B kn kc m d xk hi _ rk.out rhi.out).mono ?_; rintro e w' ⟨rfl, rfl⟩)
          | fail)
        go_region_law
          ((first
            | (refine step_call (f := 70) (vs := [.slice VA vn vc]) (R := fun e w' => ∃ A' c', e = .returned (.slice A' vn c') ∧ w'.ownsRow (wr.alloc (.cells #[.int .i64 xs', .slice KA kn kc, .slice VA vn vc, .bool false] 155)).drew.heap.size 5 1 (.slice A' vn c') vn (bys xv) ∧ Below (wr.alloc (.cells #[.int .i64 xs', .slice KA kn kc, .slice VA vn vc, .bool false] 155)).drew.heap.size (wr.alloc (.cells #[.int .i64 xs', .slice KA kn kc, .slice VA vn vc, .bool false] 155)).drew w') (by rfl) (by rfl) ?_ (by simp [go_sem]) ?_ ?_; rfl; exact HCL.out; rintro e w3 ⟨A3, c3, rfl, hown3, hb3'⟩; refine ⟨_, rfl, ?_⟩; have hb3 := undrewd hb3'; have n1' := n1.below hb3; have n2' := n2.below hb3; have hcv3 := conv_str (rk.out.below hb3) kc; obtain ⟨w4, hrun4, hown4, hg4⟩ := (hM3 w3 hb3).update lawS Tryz.underlying194 (by simp only [maxLen]; omega) hks (val := .slice A3 vn c3) (d := .held (.slice A3 vn c3)) (ps := []) rfl)
            | fail))
        all_goals
          have hI4 : MapIs w4 (D.put (.string xk) (.held (.slice A3 vn c3))) (bget (L.take (k + 1)) xs' lo hi) := (((HI1.out.below hb3).put (hM3 w3 hb3).isMap xk xv (RB5.of_own hown3)).ext fun key => (Hg.out key).symm).grown hg4 (map_row (hM3 w3 hb3))
          have hB4 : Below w.heap.size w w4 := (below_then HB1.out HB1.out.size hb3).grown hg4 (below_then HB1.out HB1.out.size hb3).size (fun q hq => by injection hq with hq; omega)
          have hz4 : mb + 1 ≤ w4.heap.size := by have h1 := hg4.size; have h2 := hb3.size; omega
          have HX1 := hide hI4
          have HX2 := hide hB4
          have HX3 := hide hown4
          clear hI4 hB4 hown4 hg4 hown3 hb3' hb3 n1' n2' hcv3 hrun4
          (try go_wp2_with fail)
          exact ⟨⟨k + 1, nn + 1, _, hlt, by go_num, by omega, HX3, HX1, HX2, hz4⟩, by simp [intOf]; omega⟩
      have hm0' : ¬ (0 : Int) < (m : Int) := by omega
      go_wp2_with (first
        | (go_at_call 97; refine (bcompare_any KA A kn kc n c xk lo _ rk.out rlo.out).mono ?_; rintro e w' ⟨rfl, rfl⟩)
        | fail)
      go_region_law
        ((first
          | (refine step_call (f := 70) (vs := [.slice VA vn vc]) (R := fun e w' => ∃ A' c', e = .returned (.slice A' vn c') ∧ w'.ownsRow (wr.alloc (.cells #[.int .i64 xs', .slice KA kn kc, .slice VA vn vc, .bool false] 155)).drew.heap.size 5 1 (.slice A' vn c') vn (bys xv) ∧ Below (wr.alloc (.cells #[.int .i64 xs', .slice KA kn kc, .slice VA vn vc, .bool false] 155)).drew.heap.size (wr.alloc (.cells #[.int .i64 xs', .slice KA kn kc, .slice VA vn vc, .bool false] 155)).drew w') (by rfl) (by rfl) ?_ (by simp [go_sem]) ?_ ?_; rfl; exact HCL.out; rintro e w3 ⟨A3, c3, rfl, hown3, hb3'⟩; refine ⟨_, rfl, ?_⟩; have hb3 := undrewd hb3'; have n1' := n1.below hb3; have n2' := n2.below hb3; have hcv3 := conv_str (rk.out.below hb3) kc; obtain ⟨w4, hrun4, hown4, hg4⟩ := (hM3 w3 hb3).update lawS Tryz.underlying194 (by simp only [maxLen]; omega) hks (val := .slice A3 vn c3) (d := .held (.slice A3 vn c3)) (ps := []) rfl)
          | fail))
      all_goals
        have hI4 : MapIs w4 (D.put (.string xk) (.held (.slice A3 vn c3))) (bget (L.take (k + 1)) xs' lo hi) := (((HI1.out.below hb3).put (hM3 w3 hb3).isMap xk xv (RB5.of_own hown3)).ext fun key => (Hg.out key).symm).grown hg4 (map_row (hM3 w3 hb3))
        have hB4 : Below w.heap.size w w4 := (below_then HB1.out HB1.out.size hb3).grown hg4 (below_then HB1.out HB1.out.size hb3).size (fun q hq => by injection hq with hq; omega)
        have hz4 : mb + 1 ≤ w4.heap.size := by have h1 := hg4.size; have h2 := hb3.size; omega
        have HX1 := hide hI4
        have HX2 := hide hB4
        have HX3 := hide hown4
        clear hI4 hB4 hown4 hg4 hown3 hb3' hb3 n1' n2' hcv3 hrun4
        (try go_wp2_with fail)
        exact ⟨⟨k + 1, nn + 1, _, hlt, by go_num, by omega, HX3, HX1, HX2, hz4⟩, by simp [intOf]; omega⟩
    have hg : ∀ key, (if key = xk then none else bget (L.take k) xs' lo hi key) = bget (L.take (k + 1)) xs' lo hi key := fun key => by rw [Htk.out, bget_snoc _ _ _ _ _ _ rfl Hin.out]; rfl
    have HI2 := hide ((HI1.out.del xk).ext fun key => (hg key).symm)
    clear hg HI1
    subst hW
    by_cases hm0 : 0 < m
    · have hm0' : (0 : Int) < (m : Int) := by omega
      have hh0 : ¬ 0 ≤ cmpB xk hi := fun hc => hhi2 ⟨hm0, hc⟩
      go_wp2_with (first
        | (go_at_call 97; refine (bcompare_any KA A kn kc n c xk lo _ rk.out rlo.out).mono ?_; rintro e w' ⟨rfl, rfl⟩)
        | (go_at_call 97; refine (bcompare_any KA B kn kc m d xk hi _ rk.out rhi.out).mono ?_; rintro e w' ⟨rfl, rfl⟩)
        | (at_delete; refine wpList_delete_own _ rfl _ _ 194 9 rfl 105 lawS Tryz.underlying194 heldR mb nn D rfl HM1.out _ _ rfl hks ?_; intro w2 hown2 hturn2)
        | fail)
      have hg2 := hturn2.grown
      exact ⟨⟨k + 1, nn, _, hlt, by go_num, by omega, hide hown2, hide (HI2.out.grown hg2 (map_row HM1.out)), hide (HB1.out.grown hg2 HB1.out.size (fun q hq => by injection hq with hq; omega)), by have := hg2.size; omega⟩, by simp [intOf]; omega⟩
    have hm0' : ¬ (0 : Int) < (m : Int) := by omega
    go_wp2_with (first
      | (go_at_call 97; refine (bcompare_any KA A kn kc n c xk lo _ rk.out rlo.out).mono ?_; rintro e w' ⟨rfl, rfl⟩)
      | (at_delete; refine wpList_delete_own _ rfl _ _ 194 9 rfl 105 lawS Tryz.underlying194 heldR mb nn D rfl HM1.out _ _ rfl hks ?_; intro w2 hown2 hturn2)
      | fail)
    have hg2 := hturn2.grown
    exact ⟨⟨k + 1, nn, _, hlt, by go_num, by omega, hide hown2, hide (HI2.out.grown hg2 (map_row HM1.out)), hide (HB1.out.grown hg2 HB1.out.size (fun q hq => by injection hq with hq; omega)), by have := hg2.size; omega⟩, by simp [intOf]; omega⟩
end Go.Proofs.YtekokogmnhlchaaGreatDoor
