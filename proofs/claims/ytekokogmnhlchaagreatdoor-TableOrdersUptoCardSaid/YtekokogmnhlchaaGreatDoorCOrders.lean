/-
  TableOrders: whatever the schema, the rows, the column and the bounds are, the law answers true: the same rows laid down in two orders, if all are taken, are told the same by every scan.
  Conditions: what comes in is of bulk at most 1048576 (the second form), and the listed tables of package utf8 are as the program's text lays them (the card ties them); no other.
-/
import Derived.Test.YtekokogmnhlchaaGreatDoorC2
import Derived.Test.YtekokogmnhlchaaGreatDoorE3
import Derived.Carry
set_option linter.unusedSimpArgs false
set_option linter.unusedVariables false
namespace Go.Proofs.YtekokogmnhlchaaGreatDoor.tableOrders
open Go.Shelf Go.ChangeShapes Go.WideShapes Go.ChangeAt Go.RowKit Go.Lib
theorem witness_row (os : Os) {H : Type} (enc : TypeId × Value → H) :
    (Rows.OpenSpec.upto Rows.tableOrdersSpec).preRow enc Tryz.prog Tryz.f3 Rows.tableOrdersUptoRow.domain false Rows.tableOrdersUptoRow.laid ((laidWorld os).forCall (fun _ _ => 0) ⟨#[], #[.agg #[.string .empty, .slice none 0 0, .slice none 0 0], .slice none 0 0, .int .i64 0, .agg #[.int .i64 0, .int .i64 0, .string .empty], .agg #[.int .i64 0, .int .i64 0, .string .empty]], []⟩).memory #[.agg #[.string .empty, .slice none 0 0, .slice none 0 0], .slice none 0 0, .int .i64 0, .agg #[.int .i64 0, .int .i64 0, .string .empty], .agg #[.int .i64 0, .int .i64 0, .string .empty]] := by
  have hw : (DataW.whole enc Tryz.prog ((laidWorld os).forCall (fun _ _ => 0) ⟨#[], #[.agg #[.string .empty, .slice none 0 0, .slice none 0 0], .slice none 0 0, .int .i64 0, .agg #[.int .i64 0, .int .i64 0, .string .empty], .agg #[.int .i64 0, .int .i64 0, .string .empty]], []⟩).memory Tryz.f3.params.toList (Rows.OpenSpec.upto Rows.tableOrdersSpec).vars false #[(.agg #[.string .empty, .slice none 0 0, .slice none 0 0] : Value), (.slice none 0 0 : Value), (.int .i64 0 : Value), (.agg #[.int .i64 0, .int .i64 0, .string .empty] : Value), (.agg #[.int .i64 0, .int .i64 0, .string .empty] : Value)].toList 8).map (fun x => (x.1, x.2.1)) =
      some ([.agg [.lit (.string []), .nil, .nil], .nil, .lit (.int .i64 0), .agg [.lit (.int .i64 0), .lit (.int .i64 0), .lit (.string [])], .agg [.lit (.int .i64 0), .lit (.int .i64 0), .lit (.string [])]], []) := by kernel_rfl
  obtain ⟨⟨x1, x2, x3⟩, hx, hx1⟩ := Option.map_eq_some_iff.1 hw
  simp only [Prod.mk.injEq] at hx1
  obtain ⟨rfl, rfl⟩ := hx1
  exact OpenSpec.preRow_of_cond 8 hx (by kernel_rfl) (fun k hk => by cases hk; kernel_rfl) (by kernel_rfl) (laid_met os _)
set_option maxRecDepth 100000 in
set_option maxHeartbeats 2000000 in
theorem lifted (os : Os) (started : os.Started) (H : Type) (enc : TypeId × Value → H) (F : Stop.Interp) :
    ReturnsInHanded {} Tryz.checked os 3 .any ((Rows.OpenSpec.upto Rows.tableOrdersSpec).preRow enc Tryz.prog Tryz.f3 Rows.tableOrdersUptoRow.domain false Rows.tableOrdersUptoRow.laid) (((Rows.OpenSpec.upto Rows.tableOrdersSpec).at F).post enc Tryz.prog Tryz.f3 false true false false) := by
  refine returnsInHanded_of_row (C := Tryz.checked) (s := Rows.OpenSpec.upto Rows.tableOrdersSpec) own started (by kernel_rfl) Tryz.func3
    (witness_row_atRef (enc := enc) (C := Tryz.checked) false (laidWorld os) #[.agg #[.string .empty, .slice none 0 0, .slice none 0 0], .slice none 0 0, .int .i64 0, .agg #[.int .i64 0, .int .i64 0, .string .empty], .agg #[.int .i64 0, .int .i64 0, .string .empty]] rfl (by kernel_rfl) (by kernel_rfl) (by kernel_rfl) (witness_row os enc)) ?_
  intro W base args ds gs before hval0 hW _ hcond _ hL _ _
  have hval : ∀ (j : Nat) t v, Tryz.f3.params[j]? = some t → args[j]? = some v → Value.okWide Tryz.prog W .any base t v := hval0
  have hW' := hW
  obtain ⟨p, q, hA0, hV0, rfl, _, _⟩ := hW
  have hA : DataW.TrodAll enc Tryz.prog W 0 (fun _ => true) true Tryz.f3.params.toList args.toList ds p := hA0
  rw [Tryz.params3] at hA hval
  obtain ⟨v0, vs0, d0, ds0, p0, q0, hargs, rfl, rfl, h0, r0⟩ := trodAll_cons hA
  obtain ⟨v1, vs1, d1, ds1, p1, q1, rfl, rfl, rfl, h1, r1⟩ := trodAll_cons r0
  obtain ⟨v2, vs2, d2, ds2, p2, q2, rfl, rfl, rfl, h2, r2⟩ := trodAll_cons r1
  obtain ⟨v3, vs3, d3, ds3, p3, q3, rfl, rfl, rfl, h3, r3⟩ := trodAll_cons r2
  obtain ⟨v4, vs4, d4, ds4, p4, q4, rfl, rfl, rfl, h4, r4⟩ := trodAll_cons r3
  obtain ⟨rfl, rfl, rfl⟩ := trodAll_nil r4
  obtain rfl : args = #[v0, v1, v2, v3, v4] := by cases args; simp_all
  obtain ⟨rfl, rfl⟩ := trodVars_none hV0
  have hbulk : Rows.uptoBulkAll (H := H) ([d0, d1, d2, d3, d4] ++ []) ≤ 1048576 := of_decide_eq_true (hcond _ rfl)
  simp only [List.append_nil, Rows.uptoBulkAll] at hbulk
  have h0k := h0
  have h1k := h1
  have h2k := h2
  have h3k := h3
  have h4k := h4
  obtain ⟨cs0, rfl, _⟩ := okWide_struct Tryz.underlying25 (hval 0 25 v0 rfl rfl)
  obtain ⟨u0, h0⟩ := h0
  obtain ⟨s0, hs0, hf0⟩ := trod_Sch h0
  obtain ⟨b1, m1, z1, rfl⟩ := okWide_slice Tryz.underlying26 (hval 1 26 v1 rfl rfl)
  obtain ⟨u1, h1⟩ := h1
  obtain ⟨A1, l1, c1, e1, hc1, ho1, hf1, hl1⟩ := trod_rows h1
  obtain ⟨rfl, rfl, rfl⟩ : b1 = A1 ∧ m1 = l1.length ∧ z1 = c1 := by simpa [Value.cells] using e1
  obtain ⟨a2, rfl, rfl, rfl, w2⟩ := open_int Tryz.underlying3 (hval 2 3 v2 rfl rfl) h2
  obtain ⟨cs3, rfl, _⟩ := okWide_struct Tryz.underlying28 (hval 3 28 v3 rfl rfl)
  obtain ⟨u3, h3⟩ := h3
  obtain ⟨x3, hx3, hk3, hn3, hs3⟩ := trod_V h3
  obtain rfl : cs3 = #[.int .i64 x3.k, .int .i64 x3.n, .string x3.s] := Array.toList_inj.1 hx3
  obtain ⟨cs4, rfl, _⟩ := okWide_struct Tryz.underlying28 (hval 4 28 v4 rfl rfl)
  obtain ⟨u4, h4⟩ := h4
  obtain ⟨x4, hx4, hk4, hn4, hs4⟩ := trod_V h4
  obtain rfl : cs4 = #[.int .i64 x4.k, .int .i64 x4.n, .string x4.s] := Array.toList_inj.1 hx4
  try dsimp only at hf0
  try dsimp only at hf1 hl1
  try dsimp only at hs3
  try dsimp only at hs4
  have htab : Tabs W := tabs_of hL
  refine (orders_ok s0 cs0 b1 l1.length z1 l1 a2 x3 x4 W hs0 (hf0.mono (by omega)) ho1 (fun r hr => ⟨fun v hv => ((hf1 r hr).1 v hv).mono (by omega), by have := (hf1 r hr).2; omega⟩) (by omega) ⟨hk3, hn3, by omega⟩ ⟨hk4, hn4, by omega⟩ htab).mono ?_
  rintro e W' ⟨rfl, bel⟩
  have hlt : ∀ x ∈ (p0 ++ p1 ++ ([] : List MemPlace) ++ p3 ++ p4), x.block < W.heap.size := fun x hx => by simpa using hW'.lt x (by simpa using hx)
  have e1 : ((Rows.OpenSpec.upto Rows.tableOrdersSpec).at F).fn H ([d0, d1, .lit (.int .i64 a2), d3, d4] ++ []) = { results := [.lit (.bool true)], args := [d0, d1, .lit (.int .i64 a2), d3, d4] } := rfl
  refine ⟨_, rfl, _, _, _, [], (p0 ++ (p1 ++ (([] : List MemPlace) ++ (p3 ++ (p4 ++ []))))), [], hW', ?_, ?_, ?_, bel.frame _, fun h => by cases h⟩
  · rw [e1]; exact trodAll_mk1 (shut_bool Tryz.underlying4 _)
  · rw [e1]; exact (trodAll_cons_mk (Below.trod gq1 (by kernel_rfl) (of_decide_eq_true (by kernel_rfl)) h0k bel (fun x hx => hlt x (by simp [hx]))) (trodAll_cons_mk (Below.trod gq1 (by kernel_rfl) (of_decide_eq_true (by kernel_rfl)) h1k bel (fun x hx => hlt x (by simp [hx]))) (trodAll_cons_mk (shut_int Tryz.underlying3 w2) (trodAll_cons_mk (Below.trod gq1 (by kernel_rfl) (of_decide_eq_true (by kernel_rfl)) h3k bel (fun x hx => hlt x (by simp [hx]))) (trodAll_cons_mk (Below.trod gq1 (by kernel_rfl) (of_decide_eq_true (by kernel_rfl)) h4k bel (fun x hx => hlt x (by simp [hx]))) trodAll_mk0)))))
  · rw [e1]; rfl
set_option maxRecDepth 100000
theorem q0 : (Rows.tableOrdersUptoRow.wf (OpenSpec.ofChange (Rows.OpenSpec.upto Rows.tableOrdersSpec).bare)) = true := by kernel_rfl
theorem q3 : (Tryz.f3.params.all (Tryz.prog.readableRec ·)) = true := by kernel_rfl
theorem q4 : (namedTie Tryz.prog Rows.tableOrdersUptoRow.named (Rows.OpenSpec.upto Rows.tableOrdersSpec).bare.vars) = true := by kernel_rfl
theorem q5 : ((Rows.tableOrdersUptoRow.stops == [])) = true := by kernel_rfl
theorem q7 : ((Rows.tableOrdersUptoRow.knobs == [])) = true := by kernel_rfl
theorem q9 : ((Rows.tableOrdersUptoRow.inPlace == Tryz.prog.inPlace 3)) = true := by kernel_rfl
theorem q10 : ((Rows.tableOrdersUptoRow.unfollowed == Tryz.prog.unfollowed 3)) = true := by kernel_rfl
theorem q11 : ((Rows.tableOrdersUptoRow.recurses == Tryz.prog.recurses 3)) = true := by kernel_rfl
theorem q12 : ((Rows.tableOrdersUptoRow.named == Tryz.prog.varsNamed 3)) = true := by kernel_rfl
theorem q13 : ((Rows.tableOrdersUptoRow.maps == (Tryz.f3.params.toList ++ (Rows.OpenSpec.upto Rows.tableOrdersSpec).bare.plain.varTypes Tryz.prog).any (Tryz.prog.mapsRec ·))) = true := by kernel_rfl
theorem q14 : ((Rows.tableOrdersUptoRow.ifaces == (Tryz.f3.params.toList ++ (Rows.OpenSpec.upto Rows.tableOrdersSpec).bare.plain.varTypes Tryz.prog).any (Tryz.prog.ifacesRec ·))) = true := by kernel_rfl
theorem q15 : ((Rows.tableOrdersUptoRow.mapsOut == Tryz.prog.mapsAmong Tryz.f3.resultTypes.toList)) = true := by kernel_rfl
theorem q16 : ((Rows.tableOrdersUptoRow.loops == (Tryz.f3.params.toList ++ (Rows.OpenSpec.upto Rows.tableOrdersSpec).bare.plain.varTypes Tryz.prog).any (Tryz.prog.loopsFrom ·))) = true := by kernel_rfl
theorem q17 : ((Rows.tableOrdersUptoRow.wideKeys == (Tryz.f3.params.toList ++ (Rows.OpenSpec.upto Rows.tableOrdersSpec).bare.plain.varTypes Tryz.prog ++ Tryz.f3.resultTypes.toList).any (Tryz.prog.wideKeysFrom ·))) = true := by kernel_rfl
theorem q18 : ((Rows.OpenSpec.upto Rows.tableOrdersSpec).bare.vars.all (Tryz.prog.varReadable ·)) = true := by kernel_rfl
theorem q19 : (Tryz.f3.resultTypes.all (fun t => Tryz.prog.readableRec t && decide (t < Tryz.prog.types.size))) = true := by kernel_rfl
theorem q20 : ((Rows.tableOrdersUptoRow.ifacesOut == Tryz.f3.resultTypes.toList.any (Tryz.prog.ifacesRec ·))) = true := by kernel_rfl
theorem q21 : ((Rows.tableOrdersUptoRow.loopsOut == Tryz.f3.resultTypes.toList.any (Tryz.prog.loopsFrom ·))) = true := by kernel_rfl
theorem q22 : ((Rows.tableOrdersUptoRow.plainKeys == Tryz.prog.plainKeys)) = true := by kernel_rfl
theorem q23 : (Rows.tableOrdersUptoRow.shortTexts.isNone) = true := by kernel_rfl
theorem q26 : ((Rows.tableOrdersUptoRow.lifted == Tryz.prog.liftsFinal)) = true := by kernel_rfl
theorem q27 : ((Tryz.prog.make == some Rows.tableOrdersUptoRow.make)) = true := by kernel_rfl
theorem q28 : ((Rows.tableOrdersUptoRow.kinds == (if Rows.tableOrdersUptoRow.domain.isEmpty then [] else Tryz.f3.params.toList.map fun t => match Tryz.prog.underlying t with | some (.int k) => some k | _ => none))) = true := by kernel_rfl
theorem q29 : ((Rows.tableOrdersUptoRow.pinned == Rows.tableOrdersUptoRow.pinnedBy)) = true := by kernel_rfl
theorem q30 : ((Rows.tableOrdersUptoRow.veiled == (Tryz.f3.params.toList ++ (Rows.OpenSpec.upto Rows.tableOrdersSpec).bare.plain.varTypes Tryz.prog ++ Tryz.f3.resultTypes.toList).any (Tryz.prog.veiledRec ·))) = true := by kernel_rfl
theorem q31 : (Rows.tableOrdersUptoRow.veiledFits Tryz.prog Tryz.f3.params.toList (Tryz.f3.params.toList ++ (Rows.OpenSpec.upto Rows.tableOrdersSpec).bare.plain.varTypes Tryz.prog ++ Tryz.f3.resultTypes.toList)) = true := by kernel_rfl
theorem joined : joinedFacts Tryz.prog 3 Tryz.f3 (Rows.OpenSpec.upto Rows.tableOrdersSpec).bare Rows.tableOrdersUptoRow = true := band (band (band (band (band (band (band (band (band (band (band (band (band (band (band (band (band (band (band (band (band (band (band (band (band (band (band (band (band (band (band (q0) gq1) gq2) q3) q4) q5) gq6) q7) gq8) q9) q10) q11) q12) q13) q14) q15) q16) q17) q18) q19) q20) q21) q22) q23) gq24) gq25) q26) q27) q28) q29) q30) q31
theorem wrap : Tryz.f3.isWrapper Tryz.prog Rows.tableOrdersUptoRow.wrapper Rows.tableOrdersUptoRow.mainSum := by
  unfold Func.isWrapper; first | (rw [if_pos (by decide +kernel)]; kernel_rfl) | (rw [if_neg (by decide +kernel)]; exact ⟨rfl, rfl⟩)
theorem inst : Tryz.f3.isInstance Tryz.prog Rows.tableOrdersUptoRow.origin Rows.tableOrdersUptoRow.targs := of_decide_eq_true (by kernel_rfl)
theorem named : Tryz.prog.funcNamed Rows.tableOrdersUptoRow.func = some 3 := by kernel_rfl
theorem said : Rows.TableOrdersUptoSaid :=
  OpenClaim.holds_of_cond 3 Tryz.f3 rfl rfl rfl rfl rfl rfl rfl ⟨rfl, rfl, rfl, rfl, rfl⟩ rfl rfl rfl rfl rfl named Tryz.func3 joined inst wrap
    (fun os started H enc _ F0 => by rw [OpenClaim.pre_eq_preRow]; exact lifted os started H enc F0)
theorem plain (f : FuncId) (fn : Func) (hf : Tryz.pinned.checked.prog.funcNamed "headland/headlandlaw15.TableOrders" = some f) (hfn : Tryz.pinned.checked.prog.funcs[f]? = some fn) :
    true = Tryz.pinned.checked.prog.looks [] ∧ ∀ (j : Nat) t, fn.params[j]? = some t → Tryz.pinned.checked.prog.wantsStandIn t = false := by
  obtain rfl : f = 3 := Option.some.inj ((show Tryz.prog.funcNamed "headland/headlandlaw15.TableOrders" = some 3 from named).symm.trans hf) |>.symm
  obtain rfl : fn = Tryz.f3 := (Option.some.inj (Tryz.func3.symm.trans hfn)).symm
  refine ⟨by kernel_rfl, fun j t ht => ?_⟩
  rw [Tryz.params3] at ht
  have hm : t ∈ (#[25, 26, 3, 28, 28] : Array TypeId) := Array.mem_of_getElem? ht
  simp only [List.mem_toArray, List.mem_cons, List.mem_nil_iff, or_false] at hm
  rcases hm with rfl | rfl | rfl | rfl | rfl
  · exact (show Tryz.prog.wantsStandIn 25 = false by kernel_rfl)
  · exact (show Tryz.prog.wantsStandIn 26 = false by kernel_rfl)
  · exact (show Tryz.prog.wantsStandIn 3 = false by kernel_rfl)
  · exact (show Tryz.prog.wantsStandIn 28 = false by kernel_rfl)
  · exact (show Tryz.prog.wantsStandIn 28 = false by kernel_rfl)
/-- The card. -/
theorem card : Rows.TableOrdersUptoCardSaid :=
  Claim7.holds_tied_plain_at .later [] _ _ _ _ said (fun _ h => by cases h) (by kernel_rfl) (fun _ h => by cases h) tableOrdersUpto_row_tie rfl ⟨rfl, rfl⟩ (by kernel_rfl) rfl plain (by kernel_rfl)
#print axioms card
end Go.Proofs.YtekokogmnhlchaaGreatDoor.tableOrders
