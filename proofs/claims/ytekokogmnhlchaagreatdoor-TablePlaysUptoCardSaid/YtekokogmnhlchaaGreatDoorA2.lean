import Derived.Test.YtekokogmnhlchaaGreatDoorA1
set_option linter.unusedSimpArgs false
set_option linter.unusedVariables false
set_option linter.unusedSectionVars false
namespace Go.Proofs.YtekokogmnhlchaaGreatDoor
open Go.RowKit
section
variable (v : Value) (w : World)
theorem ta_254_254 : (Instr.typeAssert (.iface 254 v) 20 254 true).run Tryz.prog w = .ok (.tuple #[v, .bool true]) w := by kernel_rfl
theorem ta_4_254 : (Instr.typeAssert (.iface 4 v) 20 254 true).run Tryz.prog w = .ok (.tuple #[.agg #[], .bool false]) w := by kernel_rfl
theorem ta_3_254 : (Instr.typeAssert (.iface 3 v) 20 254 true).run Tryz.prog w = .ok (.tuple #[.agg #[], .bool false]) w := by kernel_rfl
theorem ta_9_254 : (Instr.typeAssert (.iface 9 v) 20 254 true).run Tryz.prog w = .ok (.tuple #[.agg #[], .bool false]) w := by kernel_rfl
theorem ta_254_4 : (Instr.typeAssert (.iface 254 v) 20 4 true).run Tryz.prog w = .ok (.tuple #[.bool false, .bool false]) w := by kernel_rfl
theorem ta_4_4 : (Instr.typeAssert (.iface 4 v) 20 4 true).run Tryz.prog w = .ok (.tuple #[v, .bool true]) w := by kernel_rfl
theorem ta_3_4 : (Instr.typeAssert (.iface 3 v) 20 4 true).run Tryz.prog w = .ok (.tuple #[.bool false, .bool false]) w := by kernel_rfl
theorem ta_9_4 : (Instr.typeAssert (.iface 9 v) 20 4 true).run Tryz.prog w = .ok (.tuple #[.bool false, .bool false]) w := by kernel_rfl
theorem ta_254_3 : (Instr.typeAssert (.iface 254 v) 20 3 true).run Tryz.prog w = .ok (.tuple #[.int .i64 0, .bool false]) w := by kernel_rfl
theorem ta_4_3 : (Instr.typeAssert (.iface 4 v) 20 3 true).run Tryz.prog w = .ok (.tuple #[.int .i64 0, .bool false]) w := by kernel_rfl
theorem ta_3_3 : (Instr.typeAssert (.iface 3 v) 20 3 true).run Tryz.prog w = .ok (.tuple #[v, .bool true]) w := by kernel_rfl
theorem ta_9_3 : (Instr.typeAssert (.iface 9 v) 20 3 true).run Tryz.prog w = .ok (.tuple #[.int .i64 0, .bool false]) w := by kernel_rfl
theorem ta_254_9 : (Instr.typeAssert (.iface 254 v) 20 9 true).run Tryz.prog w = .ok (.tuple #[.string ByteArray.empty, .bool false]) w := by kernel_rfl
theorem ta_4_9 : (Instr.typeAssert (.iface 4 v) 20 9 true).run Tryz.prog w = .ok (.tuple #[.string ByteArray.empty, .bool false]) w := by kernel_rfl
theorem ta_3_9 : (Instr.typeAssert (.iface 3 v) 20 9 true).run Tryz.prog w = .ok (.tuple #[.string ByteArray.empty, .bool false]) w := by kernel_rfl
theorem ta_9_9 : (Instr.typeAssert (.iface 9 v) 20 9 true).run Tryz.prog w = .ok (.tuple #[v, .bool true]) w := by kernel_rfl
end
attribute [go_sem] ta_254_254 ta_4_254 ta_3_254 ta_9_254 ta_254_4 ta_4_4 ta_3_4 ta_9_4 ta_254_3 ta_4_3 ta_3_3 ta_9_3 ta_254_9 ta_4_9 ta_3_9 ta_9_9
abbrev V.val (v : V) : Value := .agg #[.int .i64 v.k, .int .i64 v.n, .string v.s]
def V.ins (v : V) : Value := if v.k = 3 then .iface 4 (.bool (v.n != 0)) else if v.k = 1 then .iface 3 (.int .i64 v.n) else if v.k = 2 then .iface 9 (.string v.s) else .iface 254 (.agg #[])
theorem ret_val {a b : Value} (h : a = b) : Ending.returned a = .returned b := by rw [h]
theorem inside_any (v : V) (w : World) : Calls Tryz.prog 123 #[v.val] w fun e w' => e = .returned v.ins ∧ Below w.heap.size w w' := by
  obtain ⟨k, n, s⟩ := v
  obtain ⟨R, hR⟩ : ∃ R, V.ins ⟨k, n, s⟩ = R := ⟨_, rfl⟩
  have HR := hide hR
  rw [hR]
  clear hR
  by_cases h3 : k = 3
  · subst h3
    go_enter Tryz.func123, Tryz.ntmps123
    go_wp2
    go_ret
    exact ⟨ret_val (by rw [← HR.out]; rfl), (Below.refl _ _).alloc (Nat.le_refl _) _⟩
  have t3 : (k == 3) = false := by simp [h3]
  by_cases h1 : k = 1
  · subst h1
    clear h3
    go_enter Tryz.func123, Tryz.ntmps123
    go_wp2
    go_ret
    exact ⟨ret_val (by rw [← HR.out]; rfl), (Below.refl _ _).alloc (Nat.le_refl _) _⟩
  have t1 : (k == 1) = false := by simp [h1]
  by_cases h2 : k = 2
  · subst h2
    clear h3 h1
    go_enter Tryz.func123, Tryz.ntmps123
    go_wp2
    go_ret
    exact ⟨ret_val (by rw [← HR.out]; rfl), (Below.refl _ _).alloc (Nat.le_refl _) _⟩
  have t2 : (k == 2) = false := by simp [h2]
  have hins : V.ins ⟨k, n, s⟩ = .iface 254 (.agg #[]) := by simp [V.ins, h1, h2, h3]
  have Hins := hide hins
  clear h1 h2 h3 hins
  go_enter Tryz.func123, Tryz.ntmps123
  go_wp2
  go_ret
  exact ⟨ret_val (by rw [← HR.out, Hins.out]; rfl), (Below.refl _ _).alloc (Nat.le_refl _) _⟩
end Go.Proofs.YtekokogmnhlchaaGreatDoor
namespace Go.Proofs.YtekokogmnhlchaaGreatDoor
open Go.RowKit
set_option linter.unusedVariables false
set_option maxHeartbeats 400000 in
set_option maxRecDepth 100000 in
theorem right_lo (v : V) (h : v.k < 0) (w : World) (hs : v.s.size ≤ 9223372036854775807) (hT : Tabs w) : Calls Tryz.prog 68 #[v.val] w fun e w' => e = .returned (.int .i64 (1)) ∧ Below w.heap.size w w' := by
  obtain ⟨k, n, s⟩ := v
  simp only at *
  go_enter Tryz.func68, Tryz.ntmps68
  go_wp2
  go_ret
  exact ⟨rfl, (Below.refl _ _).alloc (Nat.le_refl _) _⟩
set_option maxHeartbeats 400000 in
set_option maxRecDepth 100000 in
theorem right_hi (v : V) (h : 3 < v.k) (w : World) (hs : v.s.size ≤ 9223372036854775807) (hT : Tabs w) : Calls Tryz.prog 68 #[v.val] w fun e w' => e = .returned (.int .i64 (1)) ∧ Below w.heap.size w w' := by
  obtain ⟨k, n, s⟩ := v
  simp only at *
  have h0 : ¬ k < 0 := by omega
  go_enter Tryz.func68, Tryz.ntmps68
  go_wp2
  go_ret
  exact ⟨rfl, (Below.refl _ _).alloc (Nat.le_refl _) _⟩
set_option maxHeartbeats 400000 in
set_option maxRecDepth 100000 in
theorem right_s0 (v : V) (h : v.k = 0) (h2 : v.s.data.toList ≠ []) (w : World) (hs : v.s.size ≤ 9223372036854775807) (hT : Tabs w) : Calls Tryz.prog 68 #[v.val] w fun e w' => e = .returned (.int .i64 (1)) ∧ Below w.heap.size w w' := by
  obtain ⟨k, n, s⟩ := v
  simp only at *
  subst h
  have t1 : s.toList.isEmpty = false := by rw [ByteArray.toList_eq]; simpa using h2
  clear h2
  go_enter Tryz.func68, Tryz.ntmps68
  go_wp2
  go_ret
  exact ⟨rfl, (Below.refl _ _).alloc (Nat.le_refl _) _⟩
set_option maxHeartbeats 400000 in
set_option maxRecDepth 100000 in
theorem right_s1 (v : V) (h : v.k = 1) (h2 : v.s.data.toList ≠ []) (w : World) (hs : v.s.size ≤ 9223372036854775807) (hT : Tabs w) : Calls Tryz.prog 68 #[v.val] w fun e w' => e = .returned (.int .i64 (1)) ∧ Below w.heap.size w w' := by
  obtain ⟨k, n, s⟩ := v
  simp only at *
  subst h
  have t1 : s.toList.isEmpty = false := by rw [ByteArray.toList_eq]; simpa using h2
  clear h2
  go_enter Tryz.func68, Tryz.ntmps68
  go_wp2
  go_ret
  exact ⟨rfl, (Below.refl _ _).alloc (Nat.le_refl _) _⟩
set_option maxHeartbeats 400000 in
set_option maxRecDepth 100000 in
theorem right_s3 (v : V) (h : v.k = 3) (h2 : v.s.data.toList ≠ []) (w : World) (hs : v.s.size ≤ 9223372036854775807) (hT : Tabs w) : Calls Tryz.prog 68 #[v.val] w fun e w' => e = .returned (.int .i64 (1)) ∧ Below w.heap.size w w' := by
  obtain ⟨k, n, s⟩ := v
  simp only at *
  subst h
  have t1 : s.toList.isEmpty = false := by rw [ByteArray.toList_eq]; simpa using h2
  clear h2
  go_enter Tryz.func68, Tryz.ntmps68
  go_wp2
  go_ret
  exact ⟨rfl, (Below.refl _ _).alloc (Nat.le_refl _) _⟩
set_option maxHeartbeats 400000 in
set_option maxRecDepth 100000 in
theorem right_n0 (v : V) (h : v.k = 0) (h2 : v.n ≠ 0) (h3 : v.s.data.toList = []) (w : World) (hs : v.s.size ≤ 9223372036854775807) (hT : Tabs w) : Calls Tryz.prog 68 #[v.val] w fun e w' => e = .returned (.int .i64 (1)) ∧ Below w.heap.size w w' := by
  obtain ⟨k, n, s⟩ := v
  simp only at *
  subst h
  have t1 : (n == 0) = false := by simp [h2]
  have t2 : (n != 0) = true := by simp [h2]
  clear h2
  have t3 : s.toList = [] := by rw [ByteArray.toList_eq]; exact h3
  clear h3
  go_enter Tryz.func68, Tryz.ntmps68
  go_wp2
  go_ret
  exact ⟨rfl, (Below.refl _ _).alloc (Nat.le_refl _) _⟩
set_option maxHeartbeats 400000 in
set_option maxRecDepth 100000 in
theorem right_n2 (v : V) (h : v.k = 2) (h2 : v.n ≠ 0) (w : World) (hs : v.s.size ≤ 9223372036854775807) (hT : Tabs w) : Calls Tryz.prog 68 #[v.val] w fun e w' => e = .returned (.int .i64 (1)) ∧ Below w.heap.size w w' := by
  obtain ⟨k, n, s⟩ := v
  simp only at *
  subst h
  have t1 : (n == 0) = false := by simp [h2]
  have t2 : (n != 0) = true := by simp [h2]
  clear h2
  go_enter Tryz.func68, Tryz.ntmps68
  go_wp2
  go_ret
  exact ⟨rfl, (Below.refl _ _).alloc (Nat.le_refl _) _⟩
set_option maxHeartbeats 400000 in
set_option maxRecDepth 100000 in
theorem right_b3 (v : V) (h : v.k = 3) (h3 : v.s.data.toList = []) (h0 : v.n ≠ 0) (h1 : v.n ≠ 1) (w : World) (hs : v.s.size ≤ 9223372036854775807) (hT : Tabs w) : Calls Tryz.prog 68 #[v.val] w fun e w' => e = .returned (.int .i64 (1)) ∧ Below w.heap.size w w' := by
  obtain ⟨k, n, s⟩ := v
  simp only at *
  subst h
  have t1 : (n != 0) = true := by simp [h0]
  have t2 : (n != 1) = true := by simp [h1]
  have t3 : s.toList = [] := by rw [ByteArray.toList_eq]; exact h3
  clear h3 h0 h1
  go_enter Tryz.func68, Tryz.ntmps68
  go_wp2
  go_ret
  exact ⟨rfl, (Below.refl _ _).alloc (Nat.le_refl _) _⟩
set_option maxHeartbeats 400000 in
set_option maxRecDepth 100000 in
theorem right_ok0 (v : V) (h : v.k = 0) (h3 : v.s.data.toList = []) (h0 : v.n = 0) (w : World) (hs : v.s.size ≤ 9223372036854775807) (hT : Tabs w) : Calls Tryz.prog 68 #[v.val] w fun e w' => e = .returned (.int .i64 (0)) ∧ Below w.heap.size w w' := by
  obtain ⟨k, n, s⟩ := v
  simp only at *
  subst h h0
  have t3 : s.toList = [] := by rw [ByteArray.toList_eq]; exact h3
  clear h3
  have hT' := fun o => hT.below ((Below.refl w.heap.size w).alloc (Nat.le_refl _) o)
  have hb0 := fun o => (Below.refl w.heap.size w).alloc (Nat.le_refl _) o
  have HB0 := hide hb0
  have HT := hide hT'
  clear hT hT' hb0
  go_enter Tryz.func68, Tryz.ntmps68
  go_wp2_with fail
  refine (inside_any ⟨0, 0, s⟩ _).mono ?_
  rintro e w1 ⟨rfl, hb1⟩
  have hb1 := below_chain (HB0.out _) hb1
  rw [show V.ins ⟨0, 0, s⟩ = .iface 254 (.agg #[]) from rfl]
  go_wp2
  go_ret
  exact ⟨rfl, hb1⟩
set_option maxHeartbeats 400000 in
set_option maxRecDepth 100000 in
theorem right_ok1 (v : V) (h : v.k = 1) (h3 : v.s.data.toList = []) (w : World) (hs : v.s.size ≤ 9223372036854775807) (hT : Tabs w) : Calls Tryz.prog 68 #[v.val] w fun e w' => e = .returned (.int .i64 (0)) ∧ Below w.heap.size w w' := by
  obtain ⟨k, n, s⟩ := v
  simp only at *
  subst h
  have t3 : s.toList = [] := by rw [ByteArray.toList_eq]; exact h3
  clear h3
  have hT' := fun o => hT.below ((Below.refl w.heap.size w).alloc (Nat.le_refl _) o)
  have hb0 := fun o => (Below.refl w.heap.size w).alloc (Nat.le_refl _) o
  have HB0 := hide hb0
  have HT := hide hT'
  clear hT hT' hb0
  go_enter Tryz.func68, Tryz.ntmps68
  go_wp2_with fail
  refine (inside_any ⟨1, n, s⟩ _).mono ?_
  rintro e w1 ⟨rfl, hb1⟩
  have hb1 := below_chain (HB0.out _) hb1
  rw [show V.ins ⟨1, n, s⟩ = .iface 3 (.int .i64 n) from rfl]
  go_wp2
  go_ret
  exact ⟨rfl, hb1⟩
set_option maxHeartbeats 400000 in
set_option maxRecDepth 100000 in
theorem right_ok30 (v : V) (h : v.k = 3) (h3 : v.s.data.toList = []) (h0 : v.n = 0) (w : World) (hs : v.s.size ≤ 9223372036854775807) (hT : Tabs w) : Calls Tryz.prog 68 #[v.val] w fun e w' => e = .returned (.int .i64 (0)) ∧ Below w.heap.size w w' := by
  obtain ⟨k, n, s⟩ := v
  simp only at *
  subst h h0
  have t3 : s.toList = [] := by rw [ByteArray.toList_eq]; exact h3
  clear h3
  have hT' := fun o => hT.below ((Below.refl w.heap.size w).alloc (Nat.le_refl _) o)
  have hb0 := fun o => (Below.refl w.heap.size w).alloc (Nat.le_refl _) o
  have HB0 := hide hb0
  have HT := hide hT'
  clear hT hT' hb0
  go_enter Tryz.func68, Tryz.ntmps68
  go_wp2_with fail
  refine (inside_any ⟨3, 0, s⟩ _).mono ?_
  rintro e w1 ⟨rfl, hb1⟩
  have hb1 := below_chain (HB0.out _) hb1
  rw [show V.ins ⟨3, 0, s⟩ = .iface 4 (.bool false) from rfl]
  go_wp2
  go_ret
  exact ⟨rfl, hb1⟩
set_option maxHeartbeats 400000 in
set_option maxRecDepth 100000 in
theorem right_ok31 (v : V) (h : v.k = 3) (h3 : v.s.data.toList = []) (h0 : v.n = 1) (w : World) (hs : v.s.size ≤ 9223372036854775807) (hT : Tabs w) : Calls Tryz.prog 68 #[v.val] w fun e w' => e = .returned (.int .i64 (0)) ∧ Below w.heap.size w w' := by
  obtain ⟨k, n, s⟩ := v
  simp only at *
  subst h h0
  have t3 : s.toList = [] := by rw [ByteArray.toList_eq]; exact h3
  clear h3
  have hT' := fun o => hT.below ((Below.refl w.heap.size w).alloc (Nat.le_refl _) o)
  have hb0 := fun o => (Below.refl w.heap.size w).alloc (Nat.le_refl _) o
  have HB0 := hide hb0
  have HT := hide hT'
  clear hT hT' hb0
  go_enter Tryz.func68, Tryz.ntmps68
  go_wp2_with fail
  refine (inside_any ⟨3, 1, s⟩ _).mono ?_
  rintro e w1 ⟨rfl, hb1⟩
  have hb1 := below_chain (HB0.out _) hb1
  rw [show V.ins ⟨3, 1, s⟩ = .iface 4 (.bool true) from rfl]
  go_wp2
  go_ret
  exact ⟨rfl, hb1⟩
set_option maxHeartbeats 400000 in
set_option maxRecDepth 100000 in
theorem right_ok2 (v : V) (h : v.k = 2) (h0 : v.n = 0) (w : World) (hs : v.s.size ≤ 9223372036854775807) (hT : Tabs w) : Calls Tryz.prog 68 #[v.val] w fun e w' => e = .returned (.int .i64 (rightV v)) ∧ Below w.heap.size w w' := by
  obtain ⟨k, n, s⟩ := v
  simp only at *
  subst h h0
  have hr : rightV ⟨2, 0, s⟩ = if Lib.validD s.data.toList = false then 12 else 0 := by simp [rightV]
  rw [hr]
  have hT' := fun o => hT.below ((Below.refl w.heap.size w).alloc (Nat.le_refl _) o)
  have hb0 := fun o => (Below.refl w.heap.size w).alloc (Nat.le_refl _) o
  have HB0 := hide hb0
  have HT := hide hT'
  have hn : (if Lib.validD s.data.toList = false then (12 : Int) else 0) = if nRunes s < 0 then 12 else 0 := by
    unfold nRunes
    cases Lib.validD s.data.toList
    · simp
    have : ¬ ((runesL s.data.toList).length : Int) < 0 := by omega
    simp [this]
  rw [hn]
  obtain ⟨R, hR⟩ : ∃ R, (if nRunes s < 0 then (12 : Int) else 0) = R := ⟨_, rfl⟩
  rw [hR]
  have HR := hide hR
  clear hT hT' hb0 hr hn hR
  go_enter Tryz.func68, Tryz.ntmps68
  go_wp2_with fail
  refine (inside_any ⟨2, 0, s⟩ _).mono ?_
  rintro e w1 ⟨rfl, hb1⟩
  have hT1 := (HT.out (.cells #[.int .i64 2, .int .i64 0, .string s] 28)).below hb1
  have hb1 := below_chain (HB0.out _) hb1
  rw [show V.ins ⟨2, 0, s⟩ = .iface 9 (.string s) from rfl]
  go_wp2_with fail
  refine (runes_any s _ hs hT1).mono ?_
  rintro e w2 ⟨rfl, hb2⟩
  by_cases hneg : nRunes s < 0
  · go_wp2
    go_ret
    exact ⟨ret_int (by rw [← HR.out, if_pos hneg]), below_chain hb1 hb2⟩
  go_wp2
  go_ret
  exact ⟨ret_int (by rw [← HR.out, if_neg (by omega)]), below_chain hb1 hb2⟩
theorem right_any (v : V) (w : World) (hs : v.s.size ≤ 9223372036854775807) (hT : Tabs w) : Calls Tryz.prog 68 #[v.val] w fun e w' => e = .returned (.int .i64 (rightV v)) ∧ Below w.heap.size w w' := by
  by_cases h1 : v.k < 0
  · rw [show rightV v = 1 by simp [rightV, h1]]; exact right_lo v h1 w hs hT
  by_cases h2 : 3 < v.k
  · rw [show rightV v = 1 by simp [rightV, h2]]; exact right_hi v h2 w hs hT
  have hk : v.k = 0 ∨ v.k = 1 ∨ v.k = 2 ∨ v.k = 3 := by omega
  rcases hk with hk | hk | hk | hk
  · by_cases h3 : v.s.data.toList = []
    · by_cases h4 : v.n = 0
      · rw [show rightV v = 0 by simp [rightV, hk, h3, h4]]; exact right_ok0 v hk h3 h4 w hs hT
      rw [show rightV v = 1 by simp [rightV, hk, h4]]; exact right_n0 v hk h4 h3 w hs hT
    rw [show rightV v = 1 by simp [rightV, hk, h3]]; exact right_s0 v hk h3 w hs hT
  · by_cases h3 : v.s.data.toList = []
    · rw [show rightV v = 0 by simp [rightV, hk, h3]]; exact right_ok1 v hk h3 w hs hT
    rw [show rightV v = 1 by simp [rightV, hk, h3]]; exact right_s1 v hk h3 w hs hT
  · by_cases h4 : v.n = 0
    · exact right_ok2 v hk h4 w hs hT
    rw [show rightV v = 1 by simp [rightV, hk, h4]]; exact right_n2 v hk h4 w hs hT
  by_cases h3 : v.s.data.toList = []
  · by_cases h4 : v.n = 0
    · rw [show rightV v = 0 by simp [rightV, hk, h3, h4]]; exact right_ok30 v hk h3 h4 w hs hT
    by_cases h5 : v.n = 1
    · rw [show rightV v = 0 by simp [rightV, hk, h3, h5]]; exact right_ok31 v hk h3 h5 w hs hT
    rw [show rightV v = 1 by simp [rightV, hk, h4, h5]]; exact right_b3 v hk h3 h4 h5 w hs hT
  rw [show rightV v = 1 by simp [rightV, hk, h3]]; exact right_s3 v hk h3 w hs hT
theorem ofNat_cell (x : Nat) : ((UInt8.ofNat x).toNat : Int) = (x : Int) % 256 := by
  have : (UInt8.ofNat x).toNat = x % 256 := UInt8.toNat_ofNat'
  rw [this]; omega
theorem eight_cells (u : Int) (h : 0 ≤ u) (h1 : u < 18446744073709551616) : bys (eightB u.toNat) = [.int .u8 (u / 72057594037927936), .int .u8 (u / 281474976710656 % 256), .int .u8 (u / 1099511627776 % 256), .int .u8 (u / 4294967296 % 256), .int .u8 (u / 16777216 % 256), .int .u8 (u / 65536 % 256), .int .u8 (u / 256 % 256), .int .u8 (u % 256)] := by
  obtain ⟨m, rfl⟩ := Int.eq_ofNat_of_zero_le h
  have e0 : (m : Int) / 72057594037927936 % 256 = (m : Int) / 72057594037927936 := by omega
  rw [← e0]
  have e : List.range 8 = [0, 1, 2, 3, 4, 5, 6, 7] := by decide
  simp only [bys, eightB, e, List.map_cons, List.map_nil, ofNat_cell, Int.toNat_natCast, Nat.reduceMul, Nat.reduceSub, Nat.reducePow, Nat.div_one, Int.natCast_ediv]
  rfl
set_option maxHeartbeats 800000 in
set_option maxRecDepth 100000 in
theorem eight_any (u : Int) (w : World) (h0 : 0 ≤ u) (h1 : u < 18446744073709551616) :
    Calls Tryz.prog 211 #[.int .u64 u] w fun e w' => ∃ A, e = .returned (.slice A 8 8) ∧ w'.ownsRow w.heap.size 5 1 (.slice A 8 8) 8 (bys (eightB u.toNat)) ∧ Below w.heap.size w w' := by
  go_enter Tryz.func211, Tryz.ntmps211
  have hmk : ∀ w, (Instr.makeSlice 105 (.int .i64 8) (.int .i64 8)).run Tryz.prog w = .ok (.slice (some ⟨w.heap.size, 0, none⟩) 8 8) (w.alloc (.cells #[.int .u8 0, .int .u8 0, .int .u8 0, .int .u8 0, .int .u8 0, .int .u8 0, .int .u8 0, .int .u8 0] 5)) := fun _ => by kernel_rfl
  go_wp2_with fail
  refine wp_loop_rounds 9 ?_
  rw [rounds_succ]
  go_wp2
  rw [rounds_succ]
  go_wp2
  rw [rounds_succ]
  go_wp2
  rw [rounds_succ]
  go_wp2
  rw [rounds_succ]
  go_wp2
  rw [rounds_succ]
  go_wp2
  rw [rounds_succ]
  go_wp2
  rw [rounds_succ]
  go_wp2
  rw [rounds_succ]
  go_wp2
  go_ret
  refine ⟨_, rfl, ?_, (Below.refl _ _).alloc (Nat.le_refl _) _⟩
  rw [eight_cells u h0 h1]
  exact World.ownsRow_lit (size := 1) w #[.int .u8 (u / 72057594037927936), .int .u8 (u / 281474976710656 % 256), .int .u8 (u / 1099511627776 % 256), .int .u8 (u / 4294967296 % 256), .int .u8 (u / 16777216 % 256), .int .u8 (u / 65536 % 256), .int .u8 (u / 256 % 256), .int .u8 (u % 256)] 8 (Nat.le_refl _) (by decide) rfl
theorem three_cells (rv : Nat) (h : rv ≤ 1114111) : bys (three (rv + 1)) = [.int .u8 (((rv : Int) + 1) / 65536), .int .u8 (((rv : Int) + 1) / 256 % 256), .int .u8 (((rv : Int) + 1) % 256)] := by
  have e1 : ((UInt8.ofNat ((rv + 1) / 65536)).toNat : Int) = ((rv : Int) + 1) / 65536 := by
    have : (UInt8.ofNat ((rv + 1) / 65536)).toNat = (rv + 1) / 65536 % 256 := UInt8.toNat_ofNat'
    rw [this]; omega
  have e2 : ((UInt8.ofNat ((rv + 1) / 256)).toNat : Int) = ((rv : Int) + 1) / 256 % 256 := by
    have : (UInt8.ofNat ((rv + 1) / 256)).toNat = (rv + 1) / 256 % 256 := UInt8.toNat_ofNat'
    rw [this]; omega
  have e3 : ((UInt8.ofNat (rv + 1)).toNat : Int) = ((rv : Int) + 1) % 256 := by
    have : (UInt8.ofNat (rv + 1)).toNat = (rv + 1) % 256 := UInt8.toNat_ofNat'
    rw [this]; omega
  simp only [bys, three, List.map_cons, List.map_nil, e1, e2, e3]
theorem three_len (n : Nat) : (three n).length = 3 := rfl
theorem own_mono {w : World} {b b' e k n : Nat} {v : Value} {xs : List Value} (h : w.ownsRow b e k v n xs) (hb : b' ≤ b) : w.ownsRow b' e k v n xs := by
  rcases h.2 with h0 | ⟨g, cap, cur, h1, h2, h3⟩
  · exact ⟨h.1, .inl h0⟩
  exact ⟨h.1, .inr ⟨g, cap, cur, h1, Nat.le_trans hb h2, h3⟩⟩
set_option maxHeartbeats 800000 in
theorem runesB_any (s : ByteArray) (w : World) (hs : s.size ≤ 100000000) :
    Calls Tryz.prog 212 #[.string s] w fun e w' => ∃ A c, e = .returned (.slice A (runesB s).length c) ∧ w'.ownsRow w.heap.size 5 1 (.slice A (runesB s).length c) (runesB s).length (bys (runesB s)) ∧ Below w.heap.size w w' := by
  go_enter Tryz.func212, Tryz.ntmps212
  go_wp2_with fail
  have hit := World.iter_heap w s 0
  have hbi : Below w.heap.size w (w.iter s 0) := (Below.refl _ _).alloc (Nat.le_refl _) _
  have Hit := hide hit
  clear hit
  go_loopw [3] (fun v wr => ∃ (pos : Nat) (l : List UInt8) (A : Option Addr) (c : Nat), pos ≤ s.size ∧ v = .slice A l.length c ∧ l.length ≤ 3 * pos ∧ Hid (l ++ (runesL (s.data.toList.drop pos)).flatMap (fun r => three (r + 1)) ++ [0, 0, 0] = runesB s ∧ wr.heap[w.heap.size]? = some (.stringIter s pos) ∧ wr.ownsRow (w.heap.size + 1) 5 1 (.slice A l.length c) l.length (bys l)) ∧ w.heap.size + 1 ≤ wr.heap.size ∧ Below w.heap.size w wr) (fun _ wr => s.size - wr.iterPos w.heap.size)
  case atStart => exact ⟨0, [], none, 0, Nat.zero_le _, rfl, by simp, hide ⟨by simp [runesB], Hit.out, World.ownsRow_nil _ _ _ _⟩, by simp [World.iter], hbi⟩
  case round =>
    obtain ⟨pos, l, A, c, hpos, rfl, hl3, HI, hsz, hbr⟩ := hrel
    obtain ⟨hcnt, hit, hown⟩ := HI.out
    clear HI
    by_cases hlt : pos < s.size
    · have hn := fun ty => Lib.run_next_any_at (P := Tryz.prog) wr w.heap.size s pos ty hit hlt
      have hwp := decode_pos s pos
      have hwl := decode_in s pos hlt
      have hrb := decode_rune s pos
      rw [runes_at s pos hlt, List.flatMap_cons] at hcnt
      have Hit2 := hide (Lib.iterAt_heap wr w.heap.size s pos (pos + (Utf8.decode s pos).2) hit)
      have Hp := hide (iterPos_of hit)
      have hb2 := Lib.below_iterAt hbr (Nat.le_refl _) s (pos + (Utf8.decode s pos).2)
      have hown2 := ownsRow_iterAt hown (Nat.lt_succ_self _) s (pos + (Utf8.decode s pos).2)
      have Hcnt := hide hcnt
      have hsz2 : w.heap.size + 1 ≤ (wr.iterAt w.heap.size s (pos + (Utf8.decode s pos).2)).heap.size := by rw [Lib.iterAt_size]; exact hsz
      have Hown := hide hown2
      clear hit hcnt hown hown2
      generalize hwd : (Utf8.decode s pos).2 = wd at *
      generalize hrv : (Utf8.decode s pos).1 = rv at *
      clear hwd hrv
      have hrb0 : 0 ≤ (rv : Int) := by omega
      have hrb1 : (rv : Int) ≤ 1114111 := by omega
      go_wp2_with (at_builtin; refine wp_app u8T rfl rfl (Hown.out.alloc _) rfl (Rd.of_own (World.ownsRow_lit (base := 0) _ _ 3 (Nat.zero_le _) (by decide) rfl)) rfl (by simp [Value.oneCell']) (by omega) (by omega) (by simp; omega) ?_; intro A' c' w1 hown1 hb1 hg1 hat1)
      go_roundw
      case rel => exact ⟨pos + wd, l ++ three (rv + 1), A', c', hwl, by simp [three], by simp [three]; omega, hide ⟨by rw [← Hcnt.out]; simp, (hb1.block _ (Nat.lt_succ_self _)).trans ((Below.heap_alloc _ _ _ (by omega)).trans Hit2.out), by simpa [bys_append, three_cells rv hrb, three_len] using hown1⟩, Nat.le_trans (Nat.le_trans hsz2 (by simp)) hb1.size, (hb2.alloc hb2.size _).trans (hb1.mono (Nat.le_succ _))⟩
      case measure => rw [Hp.out, iterPos_of ((hb1.block _ (Nat.lt_succ_self _)).trans ((Below.heap_alloc _ _ _ (by omega)).trans Hit2.out))]; omega
    have hn := fun ty => Lib.run_next_end_at (P := Tryz.prog) wr w.heap.size s pos ty hit hlt
    have Hown := hide hown
    have hrun : l ++ [0, 0, 0] = runesB s := by
      rw [runes_end s pos (by omega)] at hcnt
      simpa using hcnt
    have Hrun := hide hrun
    clear hit hown hcnt hrun
    go_wp2_with (at_builtin; refine wp_app u8T rfl rfl (Hown.out.alloc _) rfl (Rd.of_own (World.ownsRow_lit (base := 0) _ _ 3 (Nat.zero_le _) (by decide) rfl)) rfl (by simp [Value.oneCell']) (by omega) (by omega) (by simp; omega) ?_; intro A' c' w1 hown1 hb1 hg1 hat1)
    go_ret
    have hlen : (runesB s).length = l.length + 3 := by rw [← Hrun.out]; simp
    rw [hlen]
    refine ⟨A', c', rfl, ?_, (hbr.alloc hbr.size _).trans (hb1.mono (Nat.le_succ _))⟩
    have h3 : bys (runesB s) = bys l ++ [.int .u8 0, .int .u8 0, .int .u8 0] := by rw [← Hrun.out, bys_append]; rfl
    rw [h3]
    exact own_mono hown1 (Nat.le_succ _)
end Go.Proofs.YtekokogmnhlchaaGreatDoor
namespace Go.Proofs.YtekokogmnhlchaaGreatDoor
open Go.RowKit
def V.cells (v : V) : List Value := [.int .i64 v.k, .int .i64 v.n, .string v.s]
def rowCells (l : List V) : List Value := l.flatMap V.cells
theorem rowCells_len (l : List V) : (rowCells l).length = l.length * 3 := by
  induction l with
  | nil => rfl
  | cons v l ih => simp only [rowCells, List.flatMap_cons, List.length_append, List.length_cons] at ih ⊢; rw [ih]; simp [V.cells]; omega
theorem rowCells_at (l : List V) (i j : Nat) (hi : i < l.length) (hj : j < 3) : (rowCells l)[i * 3 + j]? = (V.cells l[i])[j]? := by
  have : rowCells l = (l.map V.cells).flatten := by simp [rowCells, List.flatMap]
  rw [this, flatten_get (k := 3) _ (by intro v hv; obtain ⟨u, _, rfl⟩ := List.mem_map.1 hv; rfl) i j (by simpa using hi) hj]
  simp
theorem Row.cells {w : World} {A : Option Addr} {l : List V} (h : Rd w 3 A l.length (rowCells l)) (i : Nat) (hi : i < l.length) : ∃ b o, A = some ⟨b, o, none⟩ ∧ C w b (o + i * 3) (.int .i64 l[i].k) ∧ C w b (o + i * 3 + 1) (.int .i64 l[i].n) ∧ C w b (o + i * 3 + 2) (.string l[i].s) := by
  obtain ⟨b, o, hA, hc⟩ := h.some_ (by omega)
  have hl := rowCells_len l
  refine ⟨b, o, hA, ?_, ?_, ?_⟩
  · exact (hc (i * 3 + 0) (by omega)).trans (rowCells_at l i 0 hi (by omega))
  · exact (hc (i * 3 + 1) (by omega)).trans (rowCells_at l i 1 hi (by omega))
  exact (hc (i * 3 + 2) (by omega)).trans (rowCells_at l i 2 hi (by omega))
def wf64 (n : Int) : Prop := -9223372036854775808 ≤ n ∧ n ≤ 9223372036854775807
theorem xor_pow63' (x : Nat) (h : x < 9223372036854775808) : x ^^^ 9223372036854775808 = x + 9223372036854775808 := by
  have e : (9223372036854775808 : Nat) = 2 ^ 63 := by decide
  rw [e] at h ⊢
  refine Nat.eq_of_testBit_eq fun i => ?_
  rw [Nat.testBit_xor, Nat.testBit_two_pow, Nat.add_comm x]
  rcases Nat.lt_trichotomy i 63 with hi | hi | hi
  · rw [Nat.testBit_two_pow_add_gt hi]
    have : ¬ (63 = i) := by omega
    simp [this]
  · subst hi
    rw [Nat.testBit_two_pow_add_eq]
    simp
  have h1 : x.testBit i = false := Nat.testBit_lt_two_pow (Nat.lt_of_lt_of_le h (Nat.pow_le_pow_right (by omega) (by omega)))
  have h2 : (2 ^ 63 + x).testBit i = false := Nat.testBit_lt_two_pow (Nat.lt_of_lt_of_le (show 2 ^ 63 + x < 2 ^ 64 by omega) (Nat.pow_le_pow_right (by omega) (by omega)))
  have : ¬ (63 = i) := by omega
  rw [h1, h2]
  simp [this]
theorem xor_pow63 (m : Nat) (h : m < 18446744073709551616) : m ^^^ 9223372036854775808 = if m < 9223372036854775808 then m + 9223372036854775808 else m - 9223372036854775808 := by
  split
  · exact xor_pow63' m ‹_›
  obtain ⟨x, rfl⟩ : ∃ x, m = x + 9223372036854775808 := ⟨m - 9223372036854775808, by omega⟩
  rw [← xor_pow63' x (by omega), Nat.xor_assoc, Nat.xor_self, Nat.xor_zero, xor_pow63' x (by omega)]
  omega
theorem xor_high (n : Int) (h : wf64 n) : bits BinOp.xor IntKind.u64 (IntKind.u64.wrap n) 9223372036854775808 = n + 9223372036854775808 := by
  obtain ⟨h1, h2⟩ := h
  have hw : IntKind.u64.wrap n = n % 18446744073709551616 := by simp [IntKind.wrap, IntKind.bits, IntKind.signed]
  obtain ⟨m, hm⟩ := Int.eq_ofNat_of_zero_le (Int.emod_nonneg n (show (18446744073709551616 : Int) ≠ 0 by decide))
  rw [hw, hm]
  have hlt : m < 18446744073709551616 := by have := Int.emod_lt_of_pos n (show (0 : Int) < 18446744073709551616 by decide); omega
  have := bits_xor_u64_nat m 9223372036854775808 hlt (by decide)
  rw [show ((9223372036854775808 : Nat) : Int) = 9223372036854775808 from rfl] at this
  rw [this]
  have hx : m ^^^ 9223372036854775808 = if m < 9223372036854775808 then m + 9223372036854775808 else m - 9223372036854775808 := by
    exact xor_pow63 m hlt
  rw [hx]
  split <;> omega
theorem runesB_len (s : ByteArray) : (runesB s).length ≤ 3 * s.size + 3 := by
  have : ∀ l : List Nat, (l.flatMap fun r => three (r + 1)).length = 3 * l.length := by
    intro l
    induction l with
    | nil => rfl
    | cons r l ih => simp only [List.flatMap_cons, List.length_append, ih, three_len, List.length_cons]; omega
  have h := runesL_le s.data.toList
  rw [← size_len] at h
  simp only [runesB, List.length_append, this, List.length_cons, List.length_nil]
  omega
theorem right_kinds {v : V} (h : rightV v = 0) : (v.k = 0 ∧ v.n = 0 ∧ v.s.data.toList = []) ∨ (v.k = 1 ∧ v.s.data.toList = []) ∨ (v.k = 2 ∧ v.n = 0 ∧ Lib.validD v.s.data.toList = true) ∨ (v.k = 3 ∧ (v.n = 0 ∨ v.n = 1) ∧ v.s.data.toList = []) := by
  unfold rightV at h
  split at h
  · cases h
  rename_i h1
  split at h
  · cases h
  rename_i h2
  have hk : v.k = 0 ∨ v.k = 1 ∨ v.k = 2 ∨ v.k = 3 := by omega
  have hs : v.k ≠ 2 → v.s.data.toList = [] := fun hk => Classical.byContradiction fun hn => h1 (.inr (.inr (.inl ⟨hk, hn⟩)))
  rcases hk with hk | hk | hk | hk
  · exact .inl ⟨hk, by omega, hs (by omega)⟩
  · exact .inr (.inl ⟨hk, hs (by omega)⟩)
  · refine .inr (.inr (.inl ⟨hk, by omega, ?_⟩))
    cases hv : Lib.validD v.s.data.toList
    · exact absurd ⟨hk, hv⟩ h2
    rfl
  exact .inr (.inr (.inr ⟨hk, by omega, hs (by omega)⟩))
set_option maxHeartbeats 1600000 in
set_option maxRecDepth 100000 in
theorem key_any (A : Option Addr) (c : Nat) (l : List V) (w : World) (h : Rd w 3 A l.length (rowCells l)) (hl : l.length ≤ 4) (hr : ∀ v ∈ l, rightV v = 0) (hs : ∀ v ∈ l, v.s.size ≤ 4000000) (hT : Tabs w) (hwf : ∀ v ∈ l, wf64 v.n) : Calls Tryz.prog 176 #[.slice A l.length c] w fun e w' => ∃ A' c', e = .returned (.tuple #[.slice A' (keyL l).length c', .int .i64 0]) ∧ w'.ownsRow w.heap.size 5 1 (.slice A' (keyL l).length c') (keyL l).length (bys (keyL l)) ∧ Below w.heap.size w w' := by
  go_enter Tryz.func176, Tryz.ntmps176
  go_wp2_with fail
  go_loopw [4, 19] (fun b i wr => ∃ (k A' c' : _), k ≤ l.length ∧ i = .int .i64 (k : Nat) ∧ b = .slice A' (keyL (l.take k)).length c' ∧ Hid (wr.ownsRow w.heap.size 5 1 (.slice A' (keyL (l.take k)).length c') (keyL (l.take k)).length (bys (keyL (l.take k)))) ∧ (keyL (l.take k)).length ≤ 20000000 * k ∧ Below w.heap.size w wr) (fun _ i _ => l.length - (intOf i).toNat)
  case atStart => exact ⟨0, none, 0, Nat.zero_le _, rfl, by simp [keyL], hide (by simpa [keyL, bys] using World.ownsRow_nil w w.heap.size 5 1), by simp [keyL], Below.refl _ _⟩
  case round =>
    obtain ⟨k, A', c', hk, rfl, rfl, HO, hKL, hbr⟩ := hrel
    by_cases hlt : k < l.length
    rotate_left
    · have hkl : k = l.length := by omega
      subst hkl
      have HO2 := HO.out
      rw [List.take_length] at HO2
      have hl : keyL (l.take l.length) = keyL l := by rw [List.take_length]
      rw [hl]
      go_wp2
      go_ret2
      exact ⟨A', c', rfl, HO2, hbr⟩
    obtain ⟨b, o, rfl, e0, e1, e2⟩ := Row.cells (h.below hbr) k hlt
    have hrk := hr _ (List.getElem_mem hlt)
    have hsk := hs _ (List.getElem_mem hlt)
    have htk : l.take (k + 1) = l.take k ++ [l[k]] := by simp
    have hTr := hT.below hbr
    have hwk := hwf _ (List.getElem_mem hlt)
    generalize hv : l[k] = v at *
    have Htk := hide htk
    have Hrk := hide hrk
    have HT := hide hTr
    have Hwf := hide hwk
    clear hwk hwf
    clear htk hrk hTr hv hr hs hT h
    obtain ⟨vk, vn, vs⟩ := v
    simp only at e0 e1 e2 hsk
    have Hbr := hide hbr
    clear hbr
    go_wp2_with fail
    refine (right_any ⟨vk, vn, vs⟩ _ (by show vs.size ≤ _; omega) (HT.out.below ((Below.refl _ _).alloc (Nat.le_refl _) _))).mono ?_
    rintro e w1 ⟨rfl, hb1⟩
    rw [Hrk.out]
    have n0 := (C.new wr #[.int .i64 vk, .int .i64 vn, .string vs] 28 0 (v := .int .i64 vk) rfl).below hb1
    have n1 := (C.new wr #[.int .i64 vk, .int .i64 vn, .string vs] 28 1 (v := .int .i64 vn) rfl).below hb1
    have n2 := (C.new wr #[.int .i64 vk, .int .i64 vn, .string vs] 28 2 (v := .string vs) rfl).below hb1
    have hB1 := below_chain ((Below.refl _ _).alloc (Nat.le_refl _) _) hb1
    clear hb1
    go_wp2_with fail
    refine (inside_any ⟨vk, vn, vs⟩ _).mono ?_
    rintro e w2 ⟨rfl, hb2⟩
    have n1 := n1.below hb2
    have hB2 := below_chain hB1 hb2
    clear hb2 n0 n2 hB1
    have HO2 := hide (own_below (HO.out) hB2)
    have hsz : w.heap.size ≤ w2.heap.size := Nat.le_trans (unhide Hbr).size hB2.size
    have hkl : (keyL (l.take k)).length ≤ 100000000 := by omega
    have hB := below_chain (unhide Hbr) hB2
    clear HO hB2 Hbr e0 e1 e2
    rcases right_kinds Hrk.out with ⟨h0, h1, h2⟩ | ⟨h0, h2⟩ | ⟨h0, h1, h2⟩ | ⟨h0, h1, h2⟩
    · obtain rfl : vk = 0 := h0
      have hkl2 : (keyL (l.take (k + 1))).length = (keyL (l.take k)).length + 1 := by rw [Htk.out]; simp [keyL, keyV]
      have hky : bys (keyL (l.take (k + 1))) = bys (keyL (l.take k)) ++ [.int .u8 1] := by rw [Htk.out]; simp [keyL, keyV, bys]
      have Hkl2 := hide hkl2
      have Hky := hide hky
      rw [show V.ins ⟨0, vn, vs⟩ = .iface 254 (.agg #[]) from rfl]
      clear Hrk h1 h2 HT hkl2 hky
      go_wp2_with (at_builtin; refine wp_lit u8T rfl rfl (HO2.out.alloc _) rfl rfl (by simp) (by rfl) (by simp [Value.oneCell']) (by omega) (by omega) (by simp; omega) ?_; intro A2 c2 w3 hown3 hb3 hg3)
      have hkl2 := Hkl2.out
      go_roundw
      case rel => exact ⟨k + 1, A2, c2, hlt, by go_num, by rw [hkl2], hide (by rw [hkl2, Hky.out]; exact hown3), by omega, (hB.alloc hB.size _).trans hb3⟩
      case measure => simp [intOf]; omega
    · obtain rfl : vk = 1 := h0
      have hkl2 : (keyL (l.take (k + 1))).length = (keyL (l.take k)).length + 1 + 8 := by rw [Htk.out]; simp [keyL, keyV, eightB]
      have hky : bys (keyL (l.take (k + 1))) = bys (keyL (l.take k)) ++ [.int .u8 2] ++ bys (eightB (vn + 9223372036854775808).toNat) := by rw [Htk.out]; simp [keyL, keyV, bys]
      have Hkl2 := hide hkl2
      have Hky := hide hky
      have hxor := hide (xor_high vn (unhide Hwf))
      rw [show V.ins ⟨1, vn, vs⟩ = .iface 3 (.int .i64 vn) from rfl]
      clear Hrk h2 HT hkl2 hky
      go_wp2_with (at_builtin; refine wp_lit u8T rfl rfl (HO2.out.alloc _) rfl rfl (by simp) (by rfl) (by simp [Value.oneCell']) (by omega) (by omega) (by simp; omega) ?_; intro A2 c2 w3 hown3 hb3 hg3)
      rw [hxor.out]
      have hb3 := (hB.alloc hB.size _).trans hb3
      have hwf := unhide Hwf
      refine (eight_any (vn + 9223372036854775808) _ (by unfold wf64 at hwf; omega) (by unfold wf64 at hwf; omega)).mono ?_
      clear hwf
      rintro e w4 ⟨A8, rfl, hown8, hb4⟩
      have HO4 := hide (own_below hown3 hb4)
      have HO8 := hide (Rd.of_own hown8)
      have hb5 := below_then hb3 hb3.size hb4
      clear hown3 hown8 hb4 hb3
      go_wp2_with (at_builtin; refine wp_app u8T rfl rfl HO4.out rfl HO8.out rfl (bys_one _) (by omega) (by omega) hb5.size ?_; intro A3 c3 w5 hown5 hb6 hg5 hat5)
      have hkl2 := Hkl2.out
      go_roundw
      case rel => exact ⟨k + 1, A3, c3, hlt, by go_num, by rw [hkl2], hide (by rw [hkl2, Hky.out]; exact hown5), by omega, hb5.trans hb6⟩
      case measure => simp [intOf]; omega
    · obtain rfl : vk = 2 := h0
      have hrl : (runesB vs).length ≤ 3 * vs.size + 3 := runesB_len vs
      have hkl2 : (keyL (l.take (k + 1))).length = (keyL (l.take k)).length + 1 + (runesB vs).length := by rw [Htk.out]; simp [keyL, keyV]; omega
      have hky : bys (keyL (l.take (k + 1))) = bys (keyL (l.take k)) ++ [.int .u8 3] ++ bys (runesB vs) := by rw [Htk.out]; simp [keyL, keyV, bys]
      have Hkl2 := hide hkl2
      have Hky := hide hky
      rw [show V.ins ⟨2, vn, vs⟩ = .iface 9 (.string vs) from rfl]
      clear Hrk h1 h2 HT hkl2 hky
      go_wp2_with (at_builtin; refine wp_lit u8T rfl rfl (HO2.out.alloc _) rfl rfl (by simp) (by rfl) (by simp [Value.oneCell']) (by omega) (by omega) (by simp; omega) ?_; intro A2 c2 w3 hown3 hb3 hg3)
      have hb3 := (hB.alloc hB.size _).trans hb3
      refine (runesB_any vs _ (by omega)).mono ?_
      rintro e w4 ⟨A8, c8, rfl, hown8, hb4⟩
      have HO4 := hide (own_below hown3 hb4)
      have HO8 := hide (Rd.of_own hown8)
      have hb5 := below_then hb3 hb3.size hb4
      clear hown3 hown8 hb4 hb3
      go_wp2_with (at_builtin; refine wp_app u8T rfl rfl HO4.out rfl HO8.out rfl (bys_one _) (by omega) (by omega) hb5.size ?_; intro A3 c3 w5 hown5 hb6 hg5 hat5)
      have hkl2 := Hkl2.out
      go_roundw
      case rel => exact ⟨k + 1, A3, c3, hlt, by go_num, by rw [hkl2], hide (by rw [hkl2, Hky.out]; exact hown5), by omega, hb5.trans hb6⟩
      case measure => simp [intOf]; omega
    obtain rfl : vk = 3 := h0
    have h1' : vn = 0 ∨ vn = 1 := h1
    have hkl2 : (keyL (l.take (k + 1))).length = (keyL (l.take k)).length + 2 := by rw [Htk.out]; simp [keyL, keyV]
    have hky : bys (keyL (l.take (k + 1))) = bys (keyL (l.take k)) ++ [.int .u8 4, .int .u8 vn] := by rw [Htk.out]; rcases h1' with rfl | rfl <;> simp [keyL, keyV, bys]
    have Hkl2 := hide hkl2
    have Hky := hide hky
    rw [show V.ins ⟨3, vn, vs⟩ = .iface 4 (.bool (vn != 0)) from rfl]
    have n1 := n1.alloc (.cells #[] 254)
    have v0 : 0 ≤ vn := by omega
    have v1 : vn ≤ 1 := by omega
    clear Hrk h1 h1' h2 HT hkl2 hky
    go_wp2_with (at_builtin; refine wp_lit u8T rfl rfl (HO2.out.alloc _) rfl rfl (by simp) (by rfl) (by simp [Value.oneCell']) (by omega) (by omega) (by simp; omega) ?_; intro A2 c2 w3 hown3 hb3 hg3)
    have hkl2 := Hkl2.out
    go_roundw
    case rel => exact ⟨k + 1, A2, c2, hlt, by go_num, by rw [hkl2], hide (by rw [hkl2, Hky.out]; exact hown3), by omega, (hB.alloc hB.size _).trans hb3⟩
    case measure => simp [intOf]; omega
end Go.Proofs.YtekokogmnhlchaaGreatDoor
