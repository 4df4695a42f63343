/-
  TablePlays: any operations, right or not, at most forty of them: the tables answer each as the document's tables do, and what was handed in stays as it was.
  Conditions: what comes in is of bulk at most 1048576 (the second form), and the listed tables of package utf8 are as the program's text lays them (the card ties them); no other.
-/
import Derived.Test.YtekokogmnhlchaaGreatDoorC2
import Derived.Test.YtekokogmnhlchaaGreatDoorF7
import Derived.Carry
set_option linter.unusedSimpArgs false
set_option linter.unusedVariables false
set_option linter.unusedSectionVars false
namespace Go.Proofs.YtekokogmnhlchaaGreatDoor.tablePlays
open Go.Shelf Go.ChangeShapes Go.WideShapes Go.ChangeAt Go.RowKit Go.Lib
theorem witness_row (os : Os) {H : Type} (enc : TypeId × Value → H) :
    (Rows.OpenSpec.upto Rows.tablePlaysSpec).preRow enc Tryz.prog Tryz.f9 Rows.tablePlaysUptoRow.domain false Rows.tablePlaysUptoRow.laid ((laidWorld os).forCall (fun _ _ => 0) ⟨#[], #[.slice none 0 0], []⟩).memory #[.slice none 0 0] := by
  have hw : (DataW.whole enc Tryz.prog ((laidWorld os).forCall (fun _ _ => 0) ⟨#[], #[.slice none 0 0], []⟩).memory Tryz.f9.params.toList (Rows.OpenSpec.upto Rows.tablePlaysSpec).vars false #[(.slice none 0 0 : Value)].toList 8).map (fun x => (x.1, x.2.1)) =
      some ([.nil], []) := by kernel_rfl
  obtain ⟨⟨x1, x2, x3⟩, hx, hx1⟩ := Option.map_eq_some_iff.1 hw
  simp only [Prod.mk.injEq] at hx1
  obtain ⟨rfl, rfl⟩ := hx1
  exact OpenSpec.preRow_of_cond 8 hx (by kernel_rfl) (fun k hk => by cases hk; kernel_rfl) (by kernel_rfl) (laid_met os _)
set_option maxRecDepth 100000 in
set_option maxHeartbeats 2000000 in
theorem lifted (os : Os) (started : os.Started) (H : Type) (enc : TypeId × Value → H) (F : Stop.Interp) :
    ReturnsInHanded {} Tryz.checked os 9 .any ((Rows.OpenSpec.upto Rows.tablePlaysSpec).preRow enc Tryz.prog Tryz.f9 Rows.tablePlaysUptoRow.domain false Rows.tablePlaysUptoRow.laid) (((Rows.OpenSpec.upto Rows.tablePlaysSpec).at F).post enc Tryz.prog Tryz.f9 false true false false) := by
  refine returnsInHanded_of_row (C := Tryz.checked) (s := Rows.OpenSpec.upto Rows.tablePlaysSpec) own started (by kernel_rfl) Tryz.func9
    (witness_row_atRef (enc := enc) (C := Tryz.checked) false (laidWorld os) #[.slice none 0 0] rfl (by kernel_rfl) (by kernel_rfl) (by kernel_rfl) (witness_row os enc)) ?_
  intro W base args ds gs before hval0 hW _ hcond _ hL _ _
  have hval : ∀ (j : Nat) t v, Tryz.f9.params[j]? = some t → args[j]? = some v → Value.okWide Tryz.prog W .any base t v := hval0
  have hW' := hW
  obtain ⟨p, q, hA0, hV0, rfl, _, _⟩ := hW
  have hA : DataW.TrodAll enc Tryz.prog W 0 (fun _ => true) true Tryz.f9.params.toList args.toList ds p := hA0
  rw [Tryz.params9] at hA hval
  obtain ⟨v0, vs0, d0, ds0, p0, q0, hargs, rfl, rfl, h0, r0⟩ := trodAll_cons hA
  obtain ⟨rfl, rfl, rfl⟩ := trodAll_nil r0
  obtain rfl : args = #[v0] := by cases args; simp_all
  obtain ⟨rfl, rfl⟩ := trodVars_none hV0
  have hbulk : Rows.uptoBulkAll (H := H) ([d0] ++ []) ≤ 1048576 := of_decide_eq_true (hcond _ rfl)
  simp only [List.append_nil, Rows.uptoBulkAll] at hbulk
  have h0k := h0
  obtain ⟨b0, m0, z0, rfl⟩ := okWide_slice Tryz.underlying52 (hval 0 52 v0 rfl rfl)
  obtain ⟨u0, h0⟩ := h0
  obtain ⟨A0, l0, c0, e0, hc0, ho0, hf0, hl0⟩ := trod_ops h0
  obtain ⟨rfl, rfl, rfl⟩ : b0 = A0 ∧ m0 = l0.length ∧ z0 = c0 := by simpa [Value.cells] using e0
  try dsimp only at hf0 hl0
  have htab : Tabs W := tabs_of hL
  refine (plays_ok b0 l0.length z0 l0 W ho0 (fun o ho => (hf0 o ho).mono (by omega)) (by omega) htab).mono ?_
  rintro e W' ⟨rfl, bel⟩
  have hlt : ∀ x ∈ p0, x.block < W.heap.size := fun x hx => by simpa using hW'.lt x (by simpa using hx)
  have e1 : ((Rows.OpenSpec.upto Rows.tablePlaysSpec).at F).fn H ([d0] ++ []) = { results := [.lit (.bool true)], args := [d0] } := rfl
  refine ⟨_, rfl, _, _, _, [], (p0 ++ []), [], hW', ?_, ?_, ?_, bel.frame _, fun h => by cases h⟩
  · rw [e1]; exact trodAll_mk1 (shut_bool Tryz.underlying4 _)
  · rw [e1]; exact (trodAll_cons_mk (Below.trod gq1 (by kernel_rfl) (of_decide_eq_true (by kernel_rfl)) h0k bel (fun x hx => hlt x (by simp [hx]))) trodAll_mk0)
  rw [e1]; rfl
set_option maxRecDepth 100000
theorem q0 : (Rows.tablePlaysUptoRow.wf (OpenSpec.ofChange (Rows.OpenSpec.upto Rows.tablePlaysSpec).bare)) = true := by kernel_rfl
theorem q3 : (Tryz.f9.params.all (Tryz.prog.readableRec ·)) = true := by kernel_rfl
theorem q4 : (namedTie Tryz.prog Rows.tablePlaysUptoRow.named (Rows.OpenSpec.upto Rows.tablePlaysSpec).bare.vars) = true := by kernel_rfl
theorem q5 : ((Rows.tablePlaysUptoRow.stops == [])) = true := by kernel_rfl
theorem q7 : ((Rows.tablePlaysUptoRow.knobs == [])) = true := by kernel_rfl
theorem q9 : ((Rows.tablePlaysUptoRow.inPlace == Tryz.prog.inPlace 9)) = true := by kernel_rfl
theorem q10 : ((Rows.tablePlaysUptoRow.unfollowed == Tryz.prog.unfollowed 9)) = true := by kernel_rfl
theorem q11 : ((Rows.tablePlaysUptoRow.recurses == Tryz.prog.recurses 9)) = true := by kernel_rfl
theorem q12 : ((Rows.tablePlaysUptoRow.named == Tryz.prog.varsNamed 9)) = true := by kernel_rfl
theorem q13 : ((Rows.tablePlaysUptoRow.maps == (Tryz.f9.params.toList ++ (Rows.OpenSpec.upto Rows.tablePlaysSpec).bare.plain.varTypes Tryz.prog).any (Tryz.prog.mapsRec ·))) = true := by kernel_rfl
theorem q14 : ((Rows.tablePlaysUptoRow.ifaces == (Tryz.f9.params.toList ++ (Rows.OpenSpec.upto Rows.tablePlaysSpec).bare.plain.varTypes Tryz.prog).any (Tryz.prog.ifacesRec ·))) = true := by kernel_rfl
theorem q15 : ((Rows.tablePlaysUptoRow.mapsOut == Tryz.prog.mapsAmong Tryz.f9.resultTypes.toList)) = true := by kernel_rfl
theorem q16 : ((Rows.tablePlaysUptoRow.loops == (Tryz.f9.params.toList ++ (Rows.OpenSpec.upto Rows.tablePlaysSpec).bare.plain.varTypes Tryz.prog).any (Tryz.prog.loopsFrom ·))) = true := by kernel_rfl
theorem q17 : ((Rows.tablePlaysUptoRow.wideKeys == (Tryz.f9.params.toList ++ (Rows.OpenSpec.upto Rows.tablePlaysSpec).bare.plain.varTypes Tryz.prog ++ Tryz.f9.resultTypes.toList).any (Tryz.prog.wideKeysFrom ·))) = true := by kernel_rfl
theorem q18 : ((Rows.OpenSpec.upto Rows.tablePlaysSpec).bare.vars.all (Tryz.prog.varReadable ·)) = true := by kernel_rfl
theorem q19 : (Tryz.f9.resultTypes.all (fun t => Tryz.prog.readableRec t && decide (t < Tryz.prog.types.size))) = true := by kernel_rfl
theorem q20 : ((Rows.tablePlaysUptoRow.ifacesOut == Tryz.f9.resultTypes.toList.any (Tryz.prog.ifacesRec ·))) = true := by kernel_rfl
theorem q21 : ((Rows.tablePlaysUptoRow.loopsOut == Tryz.f9.resultTypes.toList.any (Tryz.prog.loopsFrom ·))) = true := by kernel_rfl
theorem q22 : ((Rows.tablePlaysUptoRow.plainKeys == Tryz.prog.plainKeys)) = true := by kernel_rfl
theorem q23 : (Rows.tablePlaysUptoRow.shortTexts.isNone) = true := by kernel_rfl
theorem q26 : ((Rows.tablePlaysUptoRow.lifted == Tryz.prog.liftsFinal)) = true := by kernel_rfl
theorem q27 : ((Tryz.prog.make == some Rows.tablePlaysUptoRow.make)) = true := by kernel_rfl
theorem q28 : ((Rows.tablePlaysUptoRow.kinds == (if Rows.tablePlaysUptoRow.domain.isEmpty then [] else Tryz.f9.params.toList.map fun t => match Tryz.prog.underlying t with | some (.int k) => some k | _ => none))) = true := by kernel_rfl
theorem q29 : ((Rows.tablePlaysUptoRow.pinned == Rows.tablePlaysUptoRow.pinnedBy)) = true := by kernel_rfl
theorem q30 : ((Rows.tablePlaysUptoRow.veiled == (Tryz.f9.params.toList ++ (Rows.OpenSpec.upto Rows.tablePlaysSpec).bare.plain.varTypes Tryz.prog ++ Tryz.f9.resultTypes.toList).any (Tryz.prog.veiledRec ·))) = true := by kernel_rfl
theorem q31 : (Rows.tablePlaysUptoRow.veiledFits Tryz.prog Tryz.f9.params.toList (Tryz.f9.params.toList ++ (Rows.OpenSpec.upto Rows.tablePlaysSpec).bare.plain.varTypes Tryz.prog ++ Tryz.f9.resultTypes.toList)) = true := by kernel_rfl
theorem joined : joinedFacts Tryz.prog 9 Tryz.f9 (Rows.OpenSpec.upto Rows.tablePlaysSpec).bare Rows.tablePlaysUptoRow = true := band (band (band (band (band (band (band (band (band (band (band (band (band (band (band (band (band (band (band (band (band (band (band (band (band (band (band (band (band (band (band (q0) gq1) gq2) q3) q4) q5) gq6) q7) gq8) q9) q10) q11) q12) q13) q14) q15) q16) q17) q18) q19) q20) q21) q22) q23) gq24) gq25) q26) q27) q28) q29) q30) q31
theorem wrap : Tryz.f9.isWrapper Tryz.prog Rows.tablePlaysUptoRow.wrapper Rows.tablePlaysUptoRow.mainSum := by
  unfold Func.isWrapper; first | (rw [if_pos (by decide +kernel)]; kernel_rfl) | (rw [if_neg (by decide +kernel)]; exact ⟨rfl, rfl⟩)
theorem inst : Tryz.f9.isInstance Tryz.prog Rows.tablePlaysUptoRow.origin Rows.tablePlaysUptoRow.targs := of_decide_eq_true (by kernel_rfl)
theorem named : Tryz.prog.funcNamed Rows.tablePlaysUptoRow.func = some 9 := by kernel_rfl
theorem said : Rows.TablePlaysUptoSaid :=
  OpenClaim.holds_of_cond 9 Tryz.f9 rfl rfl rfl rfl rfl rfl rfl ⟨rfl, rfl, rfl, rfl, rfl⟩ rfl rfl rfl rfl rfl named Tryz.func9 joined inst wrap
    (fun os started H enc _ F0 => by rw [OpenClaim.pre_eq_preRow]; exact lifted os started H enc F0)
theorem plain (f : FuncId) (fn : Func) (hf : Tryz.pinned.checked.prog.funcNamed "headland/headlandlaw15.TablePlays" = some f) (hfn : Tryz.pinned.checked.prog.funcs[f]? = some fn) :
    true = Tryz.pinned.checked.prog.looks [] ∧ ∀ (j : Nat) t, fn.params[j]? = some t → Tryz.pinned.checked.prog.wantsStandIn t = false := by
  obtain rfl : f = 9 := Option.some.inj ((show Tryz.prog.funcNamed "headland/headlandlaw15.TablePlays" = some 9 from named).symm.trans hf) |>.symm
  obtain rfl : fn = Tryz.f9 := (Option.some.inj (Tryz.func9.symm.trans hfn)).symm
  refine ⟨by kernel_rfl, fun j t ht => ?_⟩
  rw [Tryz.params9] at ht
  have hm : t ∈ (#[52] : Array TypeId) := Array.mem_of_getElem? ht
  simp only [List.mem_toArray, List.mem_cons, List.mem_nil_iff, or_false] at hm
  subst hm
  exact (show Tryz.prog.wantsStandIn 52 = false by kernel_rfl)
theorem card : Rows.TablePlaysUptoCardSaid :=
  Claim7.holds_tied_plain_at .later [] _ _ _ _ said (fun _ h => by cases h) (by kernel_rfl) (fun _ h => by cases h) tablePlaysUpto_row_tie rfl ⟨rfl, rfl⟩ (by kernel_rfl) rfl plain (by kernel_rfl)
end Go.Proofs.YtekokogmnhlchaaGreatDoor.tablePlays
