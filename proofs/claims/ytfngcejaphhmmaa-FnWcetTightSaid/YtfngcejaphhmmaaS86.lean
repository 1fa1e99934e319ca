import Derived.Test.YtfngcejaphhmmaaS85
namespace Go.Proofs.Ytfngcejaphhmmaa
open Go.Abs Go.Ds
set_option linter.unusedSimpArgs false
set_option linter.unusedVariables false
set_option maxRecDepth 20000
set_option maxHeartbeats 2000000
theorem costsC_big (w : Bool) {P : List Nd} (h : nodesOk P) {k : Nat} (hk : k ≤ P.length) {a : Int} (h0 : 0 ≤ a) (h1 : a ≤ (k : Int) - 1) : 0 ≤ gI (costsC w P k) a ∧ gI (costsC w P k) a ≤ 601 := by
  obtain ⟨c0, c1⟩ := costs_cut w h k hk
  have e0 := c0 a.toNat (by omega)
  have e1 := c1 a.toNat (by omega)
  rw [show ((a.toNat : Nat) : Int) = a by omega] at e0 e1
  rw [e1]; split <;> omega
theorem rdCC {w : Bool} {P : List Nd} {k : Nat} {a : Int} (h0 : 0 ≤ a) (h1 : a ≤ (k : Int) - 1) : rd (encInt.row (costsC w P k)) a.toNat = .i .i64 (gI (costsC w P k) a) := by
  have hl := costsC_len w P k
  rw [rdI (show a.toNat < (costsC w P k).length by omega)]
  simp [gI, List.getD_eq_getElem?_getD, show a.toNat < (costsC w P k).length by omega]
theorem takCC {w : Bool} {P : List Nd} {k : Nat} {x : Int} (hx : x = ndCost w (gN P k) (costsC w P k)) : List.take k (encInt.row (costsC w P k)) ++ [AV.i .i64 (if 601 < x then 601 else x)] = encInt.row (costsC w P (k + 1)) := by
  have hl := costsC_len w P k
  rw [List.take_of_length_le (by rw [lenI]; omega), appI, hx]; rfl
theorem spec_l8Costs0 (w : Bool) (P : List Nd) (h : nodesOk P) (hl : P.length ≤ 12) (c : Nat) : CallWp Try.prog n_spec_l8Costs [.sl 0 0 P.length c, .b w] [.ro (encNd.row P)]
    (fun x σ => ∃ cap, x = .sl 1 0 P.length cap ∧ σ = [.ro (encNd.row P)] ++ [.rw ty_int (encInt.row (costsC w P P.length)) (cap * 1)]) := by
  refine call_spec_l8Costs (by simp) ?_
  simp only [c_spec_l8Costs, not_true_eq_false, not_false_eq_true, decide_true, decide_false, Bool.not_true, Bool.not_false, false_implies, true_implies, and_true, true_and, Bool.false_eq_true, Bool.true_eq_false, implies_true, Bool.not_not, Classical.not_not, go_sem, Int.reduceToNat, List.take_nil, Nat.zero_mul, Nat.reduceEqDiff, Nat.reduceAdd, Nat.reduceLT, Nat.reduceLeDiff, Nat.reduceMul, ↓reduceIte, reduceCtorEq]
  refine loop_intro (fun i : Nat × Nat => ⟨[(0, .sl 0 0 P.length c), (1, .b w), (5, .sl 1 0 i.2 i.1), (6, .i .i64 i.2)], [.ro (encNd.row P), .rw ty_int (encInt.row (costsC w P i.2)) i.1]⟩) (fun i => i.2 ≤ P.length) (fun i => P.length - i.2) (0, 0) (Nat.zero_le _) (Wk.pick [0, 1]) ?_
  rintro ⟨cap, k⟩ hk
  simp only at hk
  have hcl := costsC_len w P k
  simp only [l0_spec_l8Costs, not_true_eq_false, not_false_eq_true, decide_true, decide_false, Bool.not_true, Bool.not_false, false_implies, true_implies, and_true, true_and, Bool.false_eq_true, Bool.true_eq_false, implies_true, Bool.not_not, Classical.not_not, go_sem, Int.reduceToNat, List.take_nil, Nat.zero_mul, Nat.reduceEqDiff, Nat.reduceAdd, Nat.reduceLT, Nat.reduceLeDiff, Nat.reduceMul, ↓reduceIte, reduceCtorEq]
  refine ⟨fun hlt => ?_, fun hge => ?_⟩
  · have ho := h k hlt
    have hb := fun a => costsC_big w h hk (a := a)
    unfold ndOk at ho
    rcases ho with ho | ho | ho | ho
    · simp only [winN hlt, encN, lenN, lenI, hcl, ho.1, takCC (show (gN P k).C = ndCost w (gN P k) (costsC w P k) by rw [nc1 _ _ ho.1]), Int.reduceEq, not_true_eq_false, not_false_eq_true, decide_true, decide_false, Bool.not_true, Bool.not_false, false_implies, true_implies, and_true, true_and, Bool.false_eq_true, Bool.true_eq_false, implies_true, Bool.not_not, Classical.not_not, go_sem, Int.reduceToNat, List.take_nil, Nat.zero_mul, Nat.reduceEqDiff, Nat.reduceAdd, Nat.reduceLT, Nat.reduceLeDiff, Nat.reduceMul, ↓reduceIte, reduceCtorEq]
      repeat' first
        | omega
        | (intro cap' hcap'; exact ⟨by omega, (cap', k + 1), ⟨by simp only; omega, by simp only; omega⟩, Wk.pick [0, 4]⟩)
        | refine ⟨?_, ?_⟩
    · obtain ⟨a0, a1⟩ := ho.2.2.1
      obtain ⟨b0, b1⟩ := ho.2.2.2.1
      have ba := hb _ a0 a1
      have bb := hb _ b0 b1
      simp only [winN hlt, encN, lenN, lenI, hcl, ho.1, rdCC a0 a1, rdCC b0 b1, takCC (show gI (costsC w P k) (gN P k).A + gI (costsC w P k) (gN P k).B = ndCost w (gN P k) (costsC w P k) by rw [nc2 _ _ ho.1]), Int.reduceEq, not_true_eq_false, not_false_eq_true, decide_true, decide_false, Bool.not_true, Bool.not_false, false_implies, true_implies, and_true, true_and, Bool.false_eq_true, Bool.true_eq_false, implies_true, Bool.not_not, Classical.not_not, go_sem, Int.reduceToNat, List.take_nil, Nat.zero_mul, Nat.reduceEqDiff, Nat.reduceAdd, Nat.reduceLT, Nat.reduceLeDiff, Nat.reduceMul, ↓reduceIte, reduceCtorEq]
      repeat' first
        | omega
        | (intro cap' hcap'; exact ⟨by omega, (cap', k + 1), ⟨by simp only; omega, by simp only; omega⟩, Wk.pick [0, 4]⟩)
        | refine ⟨?_, ?_⟩
    · obtain ⟨a0, a1⟩ := ho.2.2.1
      obtain ⟨b0, b1⟩ := ho.2.2.2.1
      have ba := hb _ a0 a1
      have bb := hb _ b0 b1
      cases w
      · simp only [winN hlt, encN, lenN, lenI, hcl, ho.1, rdCC a0 a1, rdCC b0 b1, takCC (show (gN P k).C + (if gI (costsC false P k) (gN P k).B < gI (costsC false P k) (gN P k).A then gI (costsC false P k) (gN P k).B else gI (costsC false P k) (gN P k).A) = ndCost false (gN P k) (costsC false P k) by rw [nc3f _ ho.1]), Int.reduceEq, not_true_eq_false, not_false_eq_true, decide_true, decide_false, Bool.not_true, Bool.not_false, false_implies, true_implies, and_true, true_and, Bool.false_eq_true, Bool.true_eq_false, implies_true, Bool.not_not, Classical.not_not, go_sem, Int.reduceToNat, List.take_nil, Nat.zero_mul, Nat.reduceEqDiff, Nat.reduceAdd, Nat.reduceLT, Nat.reduceLeDiff, Nat.reduceMul, ↓reduceIte, reduceCtorEq]
        repeat' first
          | omega
          | (intro cap' hcap'; exact ⟨by omega, (cap', k + 1), ⟨by simp only; omega, by simp only; omega⟩, Wk.pick [0, 4]⟩)
          | refine ⟨?_, ?_⟩
      · simp only [winN hlt, encN, lenN, lenI, hcl, ho.1, rdCC a0 a1, rdCC b0 b1, takCC (show (gN P k).C + (if gI (costsC true P k) (gN P k).A < gI (costsC true P k) (gN P k).B then gI (costsC true P k) (gN P k).B else gI (costsC true P k) (gN P k).A) = ndCost true (gN P k) (costsC true P k) by rw [nc3 _ ho.1]), Int.reduceEq, not_true_eq_false, not_false_eq_true, decide_true, decide_false, Bool.not_true, Bool.not_false, false_implies, true_implies, and_true, true_and, Bool.false_eq_true, Bool.true_eq_false, implies_true, Bool.not_not, Classical.not_not, go_sem, Int.reduceToNat, List.take_nil, Nat.zero_mul, Nat.reduceEqDiff, Nat.reduceAdd, Nat.reduceLT, Nat.reduceLeDiff, Nat.reduceMul, ↓reduceIte, reduceCtorEq]
        repeat' first
          | omega
          | (intro cap' hcap'; exact ⟨by omega, (cap', k + 1), ⟨by simp only; omega, by simp only; omega⟩, Wk.pick [0, 4]⟩)
          | refine ⟨?_, ?_⟩
    · obtain ⟨a0, a1⟩ := ho.2.2.1
      have ba := hb _ a0 a1
      have hm := mul_bnd ho.2.2.2.2 (show 0 ≤ (gN P k).C + gI (costsC w P k) (gN P k).A by omega)
      cases w
      · simp only [winN hlt, encN, lenN, lenI, hcl, ho.1, takCC (show (gN P k).C = ndCost false (gN P k) (costsC false P k) by rw [nc4f _ ho.1]), Int.reduceEq, not_true_eq_false, not_false_eq_true, decide_true, decide_false, Bool.not_true, Bool.not_false, false_implies, true_implies, and_true, true_and, Bool.false_eq_true, Bool.true_eq_false, implies_true, Bool.not_not, Classical.not_not, go_sem, Int.reduceToNat, List.take_nil, Nat.zero_mul, Nat.reduceEqDiff, Nat.reduceAdd, Nat.reduceLT, Nat.reduceLeDiff, Nat.reduceMul, ↓reduceIte, reduceCtorEq]
        repeat' first
          | omega
          | (intro cap' hcap'; exact ⟨by omega, (cap', k + 1), ⟨by simp only; omega, by simp only; omega⟩, Wk.pick [0, 4]⟩)
          | refine ⟨?_, ?_⟩
      · simp only [winN hlt, encN, lenN, lenI, hcl, ho.1, rdCC a0 a1, takCC (show (gN P k).C + (gN P k).Bd * ((gN P k).C + gI (costsC true P k) (gN P k).A) = ndCost true (gN P k) (costsC true P k) by rw [nc4 _ ho.1]), Int.reduceEq, not_true_eq_false, not_false_eq_true, decide_true, decide_false, Bool.not_true, Bool.not_false, false_implies, true_implies, and_true, true_and, Bool.false_eq_true, Bool.true_eq_false, implies_true, Bool.not_not, Classical.not_not, go_sem, Int.reduceToNat, List.take_nil, Nat.zero_mul, Nat.reduceEqDiff, Nat.reduceAdd, Nat.reduceLT, Nat.reduceLeDiff, Nat.reduceMul, ↓reduceIte, reduceCtorEq]
        repeat' first
          | omega
          | (intro cap' hcap'; exact ⟨by omega, (cap', k + 1), ⟨by simp only; omega, by simp only; omega⟩, Wk.pick [0, 4]⟩)
          | refine ⟨?_, ?_⟩
  · have e : k = P.length := by omega
    subst e
    exact Fin.plain ⟨cap, rfl, by simp⟩
theorem spec_l8Costs_ (w : Bool) {P : List Nd} {v : AV} {σ : List AB} {K : AV → List AB → Prop} (h : nodesOk P) (hl : P.length ≤ 12) (hv : Rd encNd σ v P) (hk : ∀ cap, K (.sl σ.length 0 P.length cap) (σ ++ [.rw ty_int (encInt.row (costsC w P P.length)) (cap * 1)])) : CallWp Try.prog n_spec_l8Costs [v, .b w] σ K :=
  call_new _ (rds1 hv.r) (fun c => [.sl 0 0 P.length (c 0), .b w]) (fun c => spec_l8Costs0 w P h hl (c 0)) (fun ν c h => ⟨h.1, .inl rfl, trivial⟩) (fun _ => rfl) (encInt.row_flat _) hk
theorem rd_lastC {P : List Nd} (w : Bool) (h1 : 1 ≤ P.length) : rd (encInt.row (costsC w P P.length)) ((P.length : Int) - 1).toNat = .i .i64 (gI (costsC w P P.length) ((P.length : Int) - 1)) := rdCC (by omega) (by omega)
theorem last_cut {P : List Nd} (w : Bool) (h1 : 1 ≤ P.length) (h : nodesOk P) : gI (costsC w P P.length) ((P.length : Int) - 1) = if 601 < cstA w P (P.length - 1) then 601 else cstA w P (P.length - 1) := by
  have := (costs_cut w h P.length (Nat.le_refl _)).2 (P.length - 1) (by omega)
  rw [show ((P.length - 1 : Nat) : Int) = (P.length : Int) - 1 by omega] at this
  rw [this, ← costs_at w P (show P.length - 1 < P.length by omega), show ((P.length - 1 : Nat) : Int) = (P.length : Int) - 1 by omega]
theorem spec_ProgramValid0 (P : List Nd) (hl : P.length ≤ 1000000) (c : Nat) : CallWp Try.prog n_spec_ProgramValid [.sl 0 0 P.length c] [.ro (encNd.row P)] (fun x σ => x = .b (decide (progOk P)) ∧ σ = [.ro (encNd.row P)]) := by
  refine call_spec_ProgramValid (by simp) ?_
  simp only [c_spec_ProgramValid, not_true_eq_false, not_false_eq_true, decide_true, decide_false, Bool.not_true, Bool.not_false, false_implies, true_implies, and_true, true_and, Bool.false_eq_true, Bool.true_eq_false, implies_true, Bool.not_not, Classical.not_not, go_sem, Int.reduceToNat, List.take_nil, Nat.zero_mul, Nat.reduceEqDiff, Nat.reduceAdd, Nat.reduceLT, Nat.reduceLeDiff, Nat.reduceMul, ↓reduceIte, reduceCtorEq]
  refine spec_l1In_ _ _ _ ?_
  simp only [not_true_eq_false, not_false_eq_true, decide_true, decide_false, Bool.not_true, Bool.not_false, false_implies, true_implies, and_true, true_and, Bool.false_eq_true, Bool.true_eq_false, implies_true, Bool.not_not, Classical.not_not, go_sem, Int.reduceToNat, List.take_nil, Nat.zero_mul, Nat.reduceEqDiff, Nat.reduceAdd, Nat.reduceLT, Nat.reduceLeDiff, Nat.reduceMul, ↓reduceIte, reduceCtorEq]
  refine ⟨fun h1 => Fin.same (by rw [decide_eq_false (progOk_no (by omega))]), fun h1 => ?_⟩
  refine loop_count P.length (fun k => ⟨[(0, .sl 0 0 P.length c), (3, .i .i64 k)], [.ro (encNd.row P)]⟩) (fun k => nodesTo P k) (fun i hi => absurd hi (by omega)) (Wk.pick [0]) fun k hk hto => ?_
  simp only [l0_spec_ProgramValid, not_true_eq_false, not_false_eq_true, decide_true, decide_false, Bool.not_true, Bool.not_false, false_implies, true_implies, and_true, true_and, Bool.false_eq_true, Bool.true_eq_false, implies_true, Bool.not_not, Classical.not_not, go_sem, Int.reduceToNat, List.take_nil, Nat.zero_mul, Nat.reduceEqDiff, Nat.reduceAdd, Nat.reduceLT, Nat.reduceLeDiff, Nat.reduceMul, ↓reduceIte, reduceCtorEq]
  refine ⟨fun hlt => ?_, fun hge => ?_⟩
  · simp only [winN hlt, encN, lenN, not_true_eq_false, not_false_eq_true, decide_true, decide_false, Bool.not_true, Bool.not_false, false_implies, true_implies, and_true, true_and, Bool.false_eq_true, Bool.true_eq_false, implies_true, Bool.not_not, Classical.not_not, go_sem, Int.reduceToNat, List.take_nil, Nat.zero_mul, Nat.reduceEqDiff, Nat.reduceAdd, Nat.reduceLT, Nat.reduceLeDiff, Nat.reduceMul, ↓reduceIte, reduceCtorEq]
    refine ⟨by omega, by omega, ?_⟩
    refine spec_l8Node_ (gN P k) k (by omega) ?_
    simp only [not_true_eq_false, not_false_eq_true, decide_true, decide_false, Bool.not_true, Bool.not_false, false_implies, true_implies, and_true, true_and, Bool.false_eq_true, Bool.true_eq_false, implies_true, Bool.not_not, Classical.not_not, go_sem, Int.reduceToNat, List.take_nil, Nat.zero_mul, Nat.reduceEqDiff, Nat.reduceAdd, Nat.reduceLT, Nat.reduceLeDiff, Nat.reduceMul, ↓reduceIte, reduceCtorEq]
    refine ⟨fun hno => Fin.same (by rw [decide_eq_false (progOk_at hlt hno)]), fun hyes => ⟨by omega, ⟨hlt, fun i hi => ?_⟩, Wk.pick [0]⟩⟩
    rcases Nat.lt_succ_iff_lt_or_eq.1 hi with h2 | h2
    · exact hto i h2
    · subst h2; exact hyes
  · have e : k = P.length := by omega
    subst e
    have hn : nodesOk P := hto
    have h1' : 1 ≤ P.length := by omega
    have h2 := costs_at true P (show P.length - 1 < P.length by omega)
    refine spec_l8Costs_ true hn (by omega) (Rd.own rfl) fun cap => ?_
    simp only [rd_lastC true h1', lenI, costsC_len, not_true_eq_false, not_false_eq_true, decide_true, decide_false, Bool.not_true, Bool.not_false, false_implies, true_implies, and_true, true_and, Bool.false_eq_true, Bool.true_eq_false, implies_true, Bool.not_not, Classical.not_not, go_sem, Int.reduceToNat, List.take_nil, Nat.zero_mul, Nat.reduceEqDiff, Nat.reduceAdd, Nat.reduceLT, Nat.reduceLeDiff, Nat.reduceMul, ↓reduceIte, reduceCtorEq]
    refine ⟨by omega, by omega, by omega, Fin.same ?_⟩
    exact congrArg AV.b (decide_eq_decide.2 (by rw [progOk_iff ⟨h1', by omega⟩ hn, h2, last_cut true h1' hn]; split <;> omega))
theorem spec_ProgramValid_ {P : List Nd} {v : AV} {σ : List AB} {K : AV → List AB → Prop} (hl : P.length ≤ 1000000) (hv : Rd encNd σ v P) (hk : K (.b (decide (progOk P))) σ) : CallWp Try.prog n_spec_ProgramValid [v] σ K :=
  call_rds _ (rds1 hv.r) (fun c => [.sl 0 0 P.length (c 0)]) (fun c => spec_ProgramValid0 P hl (c 0)) (fun ν c h => ⟨h.1, trivial⟩) (fun _ => rfl) rfl hk
theorem bound_cut {P : List Nd} (w : Bool) (h : progOk P) : gI (costsC w P P.length) ((P.length : Int) - 1) = bound w P := by
  have h1 := h.1
  have h2 := h.2.2
  rw [last_cut w h1.1 h.2.1, bound, if_pos h]
  cases w
  · have := best_le h.2.1 P.length (P.length - 1) (by omega) (by omega)
    rw [if_neg (by omega)]
  · rw [if_neg (by omega)]
theorem spec_Wcet0 (P : List Nd) (hl : P.length ≤ 1000000) (c : Nat) : CallWp Try.prog n_spec_Wcet [.sl 0 0 P.length c] [.ro (encNd.row P)] (fun x σ => x = .i .i64 (bound true P) ∧ σ = [.ro (encNd.row P)]) := by
  refine call_spec_Wcet (by simp) ?_
  simp only [c_spec_Wcet, not_true_eq_false, not_false_eq_true, decide_true, decide_false, Bool.not_true, Bool.not_false, false_implies, true_implies, and_true, true_and, Bool.false_eq_true, Bool.true_eq_false, implies_true, Bool.not_not, Classical.not_not, go_sem, Int.reduceToNat, List.take_nil, Nat.zero_mul, Nat.reduceEqDiff, Nat.reduceAdd, Nat.reduceLT, Nat.reduceLeDiff, Nat.reduceMul, ↓reduceIte, reduceCtorEq]
  refine spec_ProgramValid_ hl (Rd.own rfl) ?_
  simp only [not_true_eq_false, not_false_eq_true, decide_true, decide_false, Bool.not_true, Bool.not_false, false_implies, true_implies, and_true, true_and, Bool.false_eq_true, Bool.true_eq_false, implies_true, Bool.not_not, Classical.not_not, go_sem, Int.reduceToNat, List.take_nil, Nat.zero_mul, Nat.reduceEqDiff, Nat.reduceAdd, Nat.reduceLT, Nat.reduceLeDiff, Nat.reduceMul, ↓reduceIte, reduceCtorEq]
  refine ⟨fun h1 => Fin.same (by rw [bound, if_neg h1]), fun h1 => ?_⟩
  refine spec_l8Costs_ true h1.2.1 h1.1.2 (Rd.own rfl) fun cap => ?_
  have := h1.1
  simp only [rd_lastC true h1.1.1, lenI, costsC_len, not_true_eq_false, not_false_eq_true, decide_true, decide_false, Bool.not_true, Bool.not_false, false_implies, true_implies, and_true, true_and, Bool.false_eq_true, Bool.true_eq_false, implies_true, Bool.not_not, Classical.not_not, go_sem, Int.reduceToNat, List.take_nil, Nat.zero_mul, Nat.reduceEqDiff, Nat.reduceAdd, Nat.reduceLT, Nat.reduceLeDiff, Nat.reduceMul, ↓reduceIte, reduceCtorEq]
  exact ⟨by omega, by omega, by omega, Fin.same (by rw [bound_cut true h1])⟩
theorem spec_Wcet_ {P : List Nd} {v : AV} {σ : List AB} {K : AV → List AB → Prop} (hl : P.length ≤ 1000000) (hv : Rd encNd σ v P) (hk : K (.i .i64 (bound true P)) σ) : CallWp Try.prog n_spec_Wcet [v] σ K :=
  call_rds _ (rds1 hv.r) (fun c => [.sl 0 0 P.length (c 0)]) (fun c => spec_Wcet0 P hl (c 0)) (fun ν c h => ⟨h.1, trivial⟩) (fun _ => rfl) rfl hk
theorem spec_Bcet0 (P : List Nd) (hl : P.length ≤ 1000000) (c : Nat) : CallWp Try.prog n_spec_Bcet [.sl 0 0 P.length c] [.ro (encNd.row P)] (fun x σ => x = .i .i64 (bound false P) ∧ σ = [.ro (encNd.row P)]) := by
  refine call_spec_Bcet (by simp) ?_
  simp only [c_spec_Bcet, not_true_eq_false, not_false_eq_true, decide_true, decide_false, Bool.not_true, Bool.not_false, false_implies, true_implies, and_true, true_and, Bool.false_eq_true, Bool.true_eq_false, implies_true, Bool.not_not, Classical.not_not, go_sem, Int.reduceToNat, List.take_nil, Nat.zero_mul, Nat.reduceEqDiff, Nat.reduceAdd, Nat.reduceLT, Nat.reduceLeDiff, Nat.reduceMul, ↓reduceIte, reduceCtorEq]
  refine spec_ProgramValid_ hl (Rd.own rfl) ?_
  simp only [not_true_eq_false, not_false_eq_true, decide_true, decide_false, Bool.not_true, Bool.not_false, false_implies, true_implies, and_true, true_and, Bool.false_eq_true, Bool.true_eq_false, implies_true, Bool.not_not, Classical.not_not, go_sem, Int.reduceToNat, List.take_nil, Nat.zero_mul, Nat.reduceEqDiff, Nat.reduceAdd, Nat.reduceLT, Nat.reduceLeDiff, Nat.reduceMul, ↓reduceIte, reduceCtorEq]
  refine ⟨fun h1 => Fin.same (by rw [bound, if_neg h1]), fun h1 => ?_⟩
  refine spec_l8Costs_ false h1.2.1 h1.1.2 (Rd.own rfl) fun cap => ?_
  have := h1.1
  simp only [rd_lastC false h1.1.1, lenI, costsC_len, not_true_eq_false, not_false_eq_true, decide_true, decide_false, Bool.not_true, Bool.not_false, false_implies, true_implies, and_true, true_and, Bool.false_eq_true, Bool.true_eq_false, implies_true, Bool.not_not, Classical.not_not, go_sem, Int.reduceToNat, List.take_nil, Nat.zero_mul, Nat.reduceEqDiff, Nat.reduceAdd, Nat.reduceLT, Nat.reduceLeDiff, Nat.reduceMul, ↓reduceIte, reduceCtorEq]
  exact ⟨by omega, by omega, by omega, Fin.same (by rw [bound_cut false h1])⟩
theorem spec_Bcet_ {P : List Nd} {v : AV} {σ : List AB} {K : AV → List AB → Prop} (hl : P.length ≤ 1000000) (hv : Rd encNd σ v P) (hk : K (.i .i64 (bound false P)) σ) : CallWp Try.prog n_spec_Bcet [v] σ K :=
  call_rds _ (rds1 hv.r) (fun c => [.sl 0 0 P.length (c 0)]) (fun c => spec_Bcet0 P hl (c 0)) (fun ν c h => ⟨h.1, trivial⟩) (fun _ => rfl) rfl hk
end Go.Proofs.Ytfngcejaphhmmaa
