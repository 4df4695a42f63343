/-
  TableBack: whatever the operations are, the law answers true: what is undone is as it was, and a refused operation leaves the draft's changes as they were.
  Conditions: what comes in is of bulk at most 1048576 (the second form), and the listed tables of package utf8 are as the program's text lays them (the card ties them); no other.
-/
import Derived.Test.YtekokogmnhlchaaGreatDoorC2
import Derived.Test.YtekokogmnhlchaaGreatDoorE2
import Derived.Carry
set_option linter.unusedSimpArgs false
set_option linter.unusedVariables false
namespace Go.Proofs.YtekokogmnhlchaaGreatDoor.tableBack
open Go.Shelf Go.ChangeShapes Go.WideShapes Go.ChangeAt Go.RowKit Go.Lib
theorem witness_row (os : Os) {H : Type} (enc : TypeId × Value → H) :
    (Rows.OpenSpec.upto Rows.tableBackSpec).preRow enc Tryz.prog Tryz.f6 Rows.tableBackUptoRow.domain false Rows.tableBackUptoRow.laid ((laidWorld os).forCall (fun _ _ => 0) ⟨#[], #[.slice none 0 0, .agg #[.int .i64 0, .string .empty, .string .empty, .slice none 0 0, .slice none 0 0, .slice none 0 0, .int .i64 0, .int .i64 0, .string .empty, .int .i64 0, .int .i64 0, .int .i64 0, .string .empty, .int .i64 0, .int .i64 0, .string .empty, .int .i64 0]], []⟩).memory #[.slice none 0 0, .agg #[.int .i64 0, .string .empty, .string .empty, .slice none 0 0, .slice none 0 0, .slice none 0 0, .int .i64 0, .int .i64 0, .string .empty, .int .i64 0, .int .i64 0, .int .i64 0, .string .empty, .int .i64 0, .int .i64 0, .string .empty, .int .i64 0]] := by
  have hw : (DataW.whole enc Tryz.prog ((laidWorld os).forCall (fun _ _ => 0) ⟨#[], #[.slice none 0 0, .agg #[.int .i64 0, .string .empty, .string .empty, .slice none 0 0, .slice none 0 0, .slice none 0 0, .int .i64 0, .int .i64 0, .string .empty, .int .i64 0, .int .i64 0, .int .i64 0, .string .empty, .int .i64 0, .int .i64 0, .string .empty, .int .i64 0]], []⟩).memory Tryz.f6.params.toList (Rows.OpenSpec.upto Rows.tableBackSpec).vars false #[(.slice none 0 0 : Value), (.agg #[.int .i64 0, .string .empty, .string .empty, .slice none 0 0, .slice none 0 0, .slice none 0 0, .int .i64 0, .int .i64 0, .string .empty, .int .i64 0, .int .i64 0, .int .i64 0, .string .empty, .int .i64 0, .int .i64 0, .string .empty, .int .i64 0] : Value)].toList 8).map (fun x => (x.1, x.2.1)) =
      some ([.nil, .agg [.lit (.int .i64 0), .lit (.string []), .agg [.lit (.string []), .nil, .nil], .nil, .agg [.lit (.int .i64 0), .lit (.int .i64 0), .lit (.string [])], .lit (.int .i64 0), .agg [.lit (.int .i64 0), .lit (.int .i64 0), .lit (.string [])], .agg [.lit (.int .i64 0), .lit (.int .i64 0), .lit (.string [])], .lit (.int .i64 0)]], []) := by kernel_rfl
  obtain ⟨⟨x1, x2, x3⟩, hx, hx1⟩ := Option.map_eq_some_iff.1 hw
  simp only [Prod.mk.injEq] at hx1
  obtain ⟨rfl, rfl⟩ := hx1
  exact OpenSpec.preRow_of_cond 8 hx (by kernel_rfl) (fun k hk => by cases hk; kernel_rfl) (by kernel_rfl) (laid_met os _)
set_option maxRecDepth 100000 in
set_option maxHeartbeats 2000000 in
theorem lifted (os : Os) (started : os.Started) (H : Type) (enc : TypeId × Value → H) (F : Stop.Interp) :
    ReturnsInHanded {} Tryz.checked os 6 .any ((Rows.OpenSpec.upto Rows.tableBackSpec).preRow enc Tryz.prog Tryz.f6 Rows.tableBackUptoRow.domain false Rows.tableBackUptoRow.laid) (((Rows.OpenSpec.upto Rows.tableBackSpec).at F).post enc Tryz.prog Tryz.f6 false true false false) := by
  refine returnsInHanded_of_row (C := Tryz.checked) (s := Rows.OpenSpec.upto Rows.tableBackSpec) own started (by kernel_rfl) Tryz.func6
    (witness_row_atRef (enc := enc) (C := Tryz.checked) false (laidWorld os) #[.slice none 0 0, .agg #[.int .i64 0, .string .empty, .string .empty, .slice none 0 0, .slice none 0 0, .slice none 0 0, .int .i64 0, .int .i64 0, .string .empty, .int .i64 0, .int .i64 0, .int .i64 0, .string .empty, .int .i64 0, .int .i64 0, .string .empty, .int .i64 0]] rfl (by kernel_rfl) (by kernel_rfl) (by kernel_rfl) (witness_row os enc)) ?_
  intro W base args ds gs before hval0 hW _ hcond _ hL _ _
  have hval : ∀ (j : Nat) t v, Tryz.f6.params[j]? = some t → args[j]? = some v → Value.okWide Tryz.prog W .any base t v := hval0
  have hW' := hW
  obtain ⟨p, q, hA0, hV0, rfl, _, _⟩ := hW
  have hA : DataW.TrodAll enc Tryz.prog W 0 (fun _ => true) true Tryz.f6.params.toList args.toList ds p := hA0
  rw [Tryz.params6] at hA hval
  obtain ⟨v0, vs0, d0, ds0, p0, q0, hargs, rfl, rfl, h0, r0⟩ := trodAll_cons hA
  obtain ⟨v1, vs1, d1, ds1, p1, q1, rfl, rfl, rfl, h1, r1⟩ := trodAll_cons r0
  obtain ⟨rfl, rfl, rfl⟩ := trodAll_nil r1
  obtain rfl : args = #[v0, v1] := by cases args; simp_all
  obtain ⟨rfl, rfl⟩ := trodVars_none hV0
  have hbulk : Rows.uptoBulkAll (H := H) ([d0, d1] ++ []) ≤ 1048576 := of_decide_eq_true (hcond _ rfl)
  simp only [List.append_nil, Rows.uptoBulkAll] at hbulk
  have h0k := h0
  have h1k := h1
  obtain ⟨b0, m0, z0, rfl⟩ := okWide_slice Tryz.underlying52 (hval 0 52 v0 rfl rfl)
  obtain ⟨u0, h0⟩ := h0
  obtain ⟨A0, l0, c0, e0, hc0, ho0, hf0, hl0⟩ := trod_ops h0
  obtain ⟨rfl, rfl, rfl⟩ : b0 = A0 ∧ m0 = l0.length ∧ z0 = c0 := by simpa [Value.cells] using e0
  obtain ⟨cs1, rfl, _⟩ := okWide_struct Tryz.underlying35 (hval 1 35 v1 rfl rfl)
  obtain ⟨u1, h1⟩ := h1
  obtain ⟨o1, ho1, hf1⟩ := trod_Op h1
  try dsimp only at hf0 hl0
  try dsimp only at hf1
  have htab : Tabs W := tabs_of hL
  refine (back_ok b0 l0.length z0 l0 o1 cs1 W ho0 (fun o ho => (hf0 o ho).mono (by omega)) ho1 (hf1.mono (by omega)) (by omega) htab).mono ?_
  rintro e W' ⟨rfl, bel⟩
  have hlt : ∀ x ∈ (p0 ++ p1), x.block < W.heap.size := fun x hx => by simpa using hW'.lt x (by simpa using hx)
  have e1 : ((Rows.OpenSpec.upto Rows.tableBackSpec).at F).fn H ([d0, d1] ++ []) = { results := [.lit (.bool true)], args := [d0, d1] } := rfl
  refine ⟨_, rfl, _, _, _, [], (p0 ++ (p1 ++ [])), [], hW', ?_, ?_, ?_, bel.frame _, fun h => by cases h⟩
  · rw [e1]; exact trodAll_mk1 (shut_bool Tryz.underlying4 _)
  · rw [e1]; exact (trodAll_cons_mk (Below.trod gq1 (by kernel_rfl) (of_decide_eq_true (by kernel_rfl)) h0k bel (fun x hx => hlt x (by simp [hx]))) (trodAll_cons_mk (Below.trod gq1 (by kernel_rfl) (of_decide_eq_true (by kernel_rfl)) h1k bel (fun x hx => hlt x (by simp [hx]))) trodAll_mk0))
  · rw [e1]; rfl
set_option maxRecDepth 100000
theorem q0 : (Rows.tableBackUptoRow.wf (OpenSpec.ofChange (Rows.OpenSpec.upto Rows.tableBackSpec).bare)) = true := by kernel_rfl
theorem q3 : (Tryz.f6.params.all (Tryz.prog.readableRec ·)) = true := by kernel_rfl
theorem q4 : (namedTie Tryz.prog Rows.tableBackUptoRow.named (Rows.OpenSpec.upto Rows.tableBackSpec).bare.vars) = true := by kernel_rfl
theorem q5 : ((Rows.tableBackUptoRow.stops == [])) = true := by kernel_rfl
theorem q7 : ((Rows.tableBackUptoRow.knobs == [])) = true := by kernel_rfl
theorem q9 : ((Rows.tableBackUptoRow.inPlace == Tryz.prog.inPlace 6)) = true := by kernel_rfl
theorem q10 : ((Rows.tableBackUptoRow.unfollowed == Tryz.prog.unfollowed 6)) = true := by kernel_rfl
theorem q11 : ((Rows.tableBackUptoRow.recurses == Tryz.prog.recurses 6)) = true := by kernel_rfl
theorem q12 : ((Rows.tableBackUptoRow.named == Tryz.prog.varsNamed 6)) = true := by kernel_rfl
theorem q13 : ((Rows.tableBackUptoRow.maps == (Tryz.f6.params.toList ++ (Rows.OpenSpec.upto Rows.tableBackSpec).bare.plain.varTypes Tryz.prog).any (Tryz.prog.mapsRec ·))) = true := by kernel_rfl
theorem q14 : ((Rows.tableBackUptoRow.ifaces == (Tryz.f6.params.toList ++ (Rows.OpenSpec.upto Rows.tableBackSpec).bare.plain.varTypes Tryz.prog).any (Tryz.prog.ifacesRec ·))) = true := by kernel_rfl
theorem q15 : ((Rows.tableBackUptoRow.mapsOut == Tryz.prog.mapsAmong Tryz.f6.resultTypes.toList)) = true := by kernel_rfl
theorem q16 : ((Rows.tableBackUptoRow.loops == (Tryz.f6.params.toList ++ (Rows.OpenSpec.upto Rows.tableBackSpec).bare.plain.varTypes Tryz.prog).any (Tryz.prog.loopsFrom ·))) = true := by kernel_rfl
theorem q17 : ((Rows.tableBackUptoRow.wideKeys == (Tryz.f6.params.toList ++ (Rows.OpenSpec.upto Rows.tableBackSpec).bare.plain.varTypes Tryz.prog ++ Tryz.f6.resultTypes.toList).any (Tryz.prog.wideKeysFrom ·))) = true := by kernel_rfl
theorem q18 : ((Rows.OpenSpec.upto Rows.tableBackSpec).bare.vars.all (Tryz.prog.varReadable ·)) = true := by kernel_rfl
theorem q19 : (Tryz.f6.resultTypes.all (fun t => Tryz.prog.readableRec t && decide (t < Tryz.prog.types.size))) = true := by kernel_rfl
theorem q20 : ((Rows.tableBackUptoRow.ifacesOut == Tryz.f6.resultTypes.toList.any (Tryz.prog.ifacesRec ·))) = true := by kernel_rfl
theorem q21 : ((Rows.tableBackUptoRow.loopsOut == Tryz.f6.resultTypes.toList.any (Tryz.prog.loopsFrom ·))) = true := by kernel_rfl
theorem q22 : ((Rows.tableBackUptoRow.plainKeys == Tryz.prog.plainKeys)) = true := by kernel_rfl
theorem q23 : (Rows.tableBackUptoRow.shortTexts.isNone) = true := by kernel_rfl
theorem q26 : ((Rows.tableBackUptoRow.lifted == Tryz.prog.liftsFinal)) = true := by kernel_rfl
theorem q27 : ((Tryz.prog.make == some Rows.tableBackUptoRow.make)) = true := by kernel_rfl
theorem q28 : ((Rows.tableBackUptoRow.kinds == (if Rows.tableBackUptoRow.domain.isEmpty then [] else Tryz.f6.params.toList.map fun t => match Tryz.prog.underlying t with | some (.int k) => some k | _ => none))) = true := by kernel_rfl
theorem q29 : ((Rows.tableBackUptoRow.pinned == Rows.tableBackUptoRow.pinnedBy)) = true := by kernel_rfl
theorem q30 : ((Rows.tableBackUptoRow.veiled == (Tryz.f6.params.toList ++ (Rows.OpenSpec.upto Rows.tableBackSpec).bare.plain.varTypes Tryz.prog ++ Tryz.f6.resultTypes.toList).any (Tryz.prog.veiledRec ·))) = true := by kernel_rfl
theorem q31 : (Rows.tableBackUptoRow.veiledFits Tryz.prog Tryz.f6.params.toList (Tryz.f6.params.toList ++ (Rows.OpenSpec.upto Rows.tableBackSpec).bare.plain.varTypes Tryz.prog ++ Tryz.f6.resultTypes.toList)) = true := by kernel_rfl
theorem joined : joinedFacts Tryz.prog 6 Tryz.f6 (Rows.OpenSpec.upto Rows.tableBackSpec).bare Rows.tableBackUptoRow = true := band (band (band (band (band (band (band (band (band (band (band (band (band (band (band (band (band (band (band (band (band (band (band (band (band (band (band (band (band (band (band (q0) gq1) gq2) q3) q4) q5) gq6) q7) gq8) q9) q10) q11) q12) q13) q14) q15) q16) q17) q18) q19) q20) q21) q22) q23) gq24) gq25) q26) q27) q28) q29) q30) q31
theorem wrap : Tryz.f6.isWrapper Tryz.prog Rows.tableBackUptoRow.wrapper Rows.tableBackUptoRow.mainSum := by
  unfold Func.isWrapper; first | (rw [if_pos (by decide +kernel)]; kernel_rfl) | (rw [if_neg (by decide +kernel)]; exact ⟨rfl, rfl⟩)
theorem inst : Tryz.f6.isInstance Tryz.prog Rows.tableBackUptoRow.origin Rows.tableBackUptoRow.targs := of_decide_eq_true (by kernel_rfl)
theorem named : Tryz.prog.funcNamed Rows.tableBackUptoRow.func = some 6 := by kernel_rfl
theorem said : Rows.TableBackUptoSaid :=
  OpenClaim.holds_of_cond 6 Tryz.f6 rfl rfl rfl rfl rfl rfl rfl ⟨rfl, rfl, rfl, rfl, rfl⟩ rfl rfl rfl rfl rfl named Tryz.func6 joined inst wrap
    (fun os started H enc _ F0 => by rw [OpenClaim.pre_eq_preRow]; exact lifted os started H enc F0)
theorem plain (f : FuncId) (fn : Func) (hf : Tryz.pinned.checked.prog.funcNamed "headland/headlandlaw15.TableBack" = some f) (hfn : Tryz.pinned.checked.prog.funcs[f]? = some fn) :
    true = Tryz.pinned.checked.prog.looks [] ∧ ∀ (j : Nat) t, fn.params[j]? = some t → Tryz.pinned.checked.prog.wantsStandIn t = false := by
  obtain rfl : f = 6 := Option.some.inj ((show Tryz.prog.funcNamed "headland/headlandlaw15.TableBack" = some 6 from named).symm.trans hf) |>.symm
  obtain rfl : fn = Tryz.f6 := (Option.some.inj (Tryz.func6.symm.trans hfn)).symm
  refine ⟨by kernel_rfl, fun j t ht => ?_⟩
  rw [Tryz.params6] at ht
  have hm : t ∈ (#[52, 35] : Array TypeId) := Array.mem_of_getElem? ht
  simp only [List.mem_toArray, List.mem_cons, List.mem_nil_iff, or_false] at hm
  rcases hm with rfl | rfl
  · exact (show Tryz.prog.wantsStandIn 52 = false by kernel_rfl)
  · exact (show Tryz.prog.wantsStandIn 35 = false by kernel_rfl)
/-- The card. -/
theorem card : Rows.TableBackUptoCardSaid :=
  Claim7.holds_tied_plain_at .later [] _ _ _ _ said (fun _ h => by cases h) (by kernel_rfl) (fun _ h => by cases h) tableBackUpto_row_tie rfl ⟨rfl, rfl⟩ (by kernel_rfl) rfl plain (by kernel_rfl)
#print axioms card
end Go.Proofs.YtekokogmnhlchaaGreatDoor.tableBack
