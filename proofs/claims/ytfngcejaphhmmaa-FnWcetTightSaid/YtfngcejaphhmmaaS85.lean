import Derived.Test.YtfngcejaphhmmaaS84
import Derived.Test.YtfngcejaphhmmaaM51
namespace Go.Proofs.Ytfngcejaphhmmaa
open Go.Abs Go.Ds
set_option linter.unusedSimpArgs false
set_option linter.unusedVariables false
set_option maxRecDepth 20000
set_option maxHeartbeats 2000000
theorem rdC {w : Bool} {P : List Nd} {n k : Nat} {a : Int} (h0 : 0 ≤ a) (h1 : a ≤ (k : Int) - 1) (hk : k ≤ n) : rd (encInt.row (cpad w P n k)) a.toNat = .i .i64 (gI (costs w P k) a) := by
  have hl := cpad_len w P hk
  rw [rdI (show a.toNat < (cpad w P n k).length by omega), cpad_get w P h0 h1 (by omega)]
theorem splC {w : Bool} {P : List Nd} {n k : Nat} (hk : k < n) {x : Int} (hx : x = ndCost w (gN P k) (costs w P k)) : spl (encInt.row (cpad w P n k)) k [.i .i64 x] = encInt.row (cpad w P n (k + 1)) := by
  rw [splI (by rw [cpad_len w P (by omega)]; exact hk), hx, cpad_set w P hk]
theorem nc1 (w : Bool) {n : Nd} (l : List Int) (h : n.K = 1) : ndCost w n l = n.C := by simp [ndCost, h]
theorem nc2 (w : Bool) {n : Nd} (l : List Int) (h : n.K = 2) : ndCost w n l = gI l n.A + gI l n.B := by simp [ndCost, h]
theorem nc3 {n : Nd} (l : List Int) (h : n.K = 3) : ndCost true n l = n.C + (if gI l n.A < gI l n.B then gI l n.B else gI l n.A) := by simp [ndCost, h]
theorem nc3f {n : Nd} (l : List Int) (h : n.K = 3) : ndCost false n l = n.C + (if gI l n.B < gI l n.A then gI l n.B else gI l n.A) := by simp [ndCost, h]
theorem nc4 {n : Nd} (l : List Int) (h : n.K = 4) : ndCost true n l = n.C + n.Bd * (n.C + gI l n.A) := by simp [ndCost, h]
theorem nc4f {n : Nd} (l : List Int) (h : n.K = 4) : ndCost false n l = n.C := by simp [ndCost, h]
theorem mul_bnd {b x : Int} (h : 0 ≤ b ∧ b ≤ 4) (hx : 0 ≤ x) : 0 ≤ b * x ∧ b * x ≤ 4 * x := by
  have : b = 0 ∨ b = 1 ∨ b = 2 ∨ b = 3 ∨ b = 4 := by omega
  rcases this with g | g | g | g | g <;> rw [g] <;> omega
theorem impl_worst0 (P : List Nd) (h : nodesOk P) (hl : P.length ≤ 12) (c : Nat) : CallWp Try.prog n_impl_worst [.sl 0 0 P.length c] [.ro (encNd.row P)]
    (fun x σ => ∃ cap, x = .sl 1 0 P.length cap ∧ σ = [.ro (encNd.row P)] ++ [.rw ty_int (encInt.row (costs true P P.length)) (cap * 1)]) := by
  refine call_impl_worst (by simp) ?_
  simp only [c_impl_worst, not_true_eq_false, not_false_eq_true, decide_true, decide_false, Bool.not_true, Bool.not_false, false_implies, true_implies, and_true, true_and, Bool.false_eq_true, Bool.true_eq_false, implies_true, Bool.not_not, Classical.not_not, go_sem, Int.reduceToNat, List.take_nil, Nat.zero_mul, Nat.reduceEqDiff, Nat.reduceAdd, Nat.reduceLT, Nat.reduceLeDiff, Nat.reduceMul, ↓reduceIte, reduceCtorEq]
  refine ⟨by omega, ?_⟩
  rw [show rep P.length [AV.i .i64 0] = encInt.row (cpad true P P.length 0) from (by rw [cpad_zero]; exact encInt.rep 0 _)]
  refine loop_count P.length (fun k => ⟨[(3, .sl 1 0 P.length P.length), (9, .sl 0 0 P.length c), (10, .i .i64 P.length), (11, .i .i64 k)], [.ro (encNd.row P), .rw ty_int (encInt.row (cpad true P P.length k)) P.length]⟩) (fun _ => True) trivial (Wk.pick [0, 1]) fun k hk _ => ?_
  have hcl := cpad_len true P hk
  simp only [l0_impl_worst, not_true_eq_false, not_false_eq_true, decide_true, decide_false, Bool.not_true, Bool.not_false, false_implies, true_implies, and_true, true_and, Bool.false_eq_true, Bool.true_eq_false, implies_true, Bool.not_not, Classical.not_not, go_sem, Int.reduceToNat, List.take_nil, Nat.zero_mul, Nat.reduceEqDiff, Nat.reduceAdd, Nat.reduceLT, Nat.reduceLeDiff, Nat.reduceMul, ↓reduceIte, reduceCtorEq]
  refine ⟨fun hlt => ?_, fun hge => ?_⟩
  · have ho := h k hlt
    have hb := fun a => costs_big true h hl hk (a := a)
    have ho' := ho
    unfold ndOk at ho
    rcases ho with ho | ho | ho | ho
    · simp only [winN hlt, encN, lenN, lenI, hcl, ho.1, splC hlt (show (gN P k).C = ndCost true (gN P k) (costs true P k) by rw [nc1 _ _ ho.1]), not_true_eq_false, not_false_eq_true, decide_true, decide_false, Bool.not_true, Bool.not_false, false_implies, true_implies, and_true, true_and, Bool.false_eq_true, Bool.true_eq_false, implies_true, Bool.not_not, Classical.not_not, go_sem, Int.reduceToNat, List.take_nil, Nat.zero_mul, Nat.reduceEqDiff, Nat.reduceAdd, Nat.reduceLT, Nat.reduceLeDiff, Nat.reduceMul, ↓reduceIte, reduceCtorEq]
      refine ⟨by omega, by omega, by omega, by omega, by omega, by omega, Wk.pick [0, 1]⟩
    · obtain ⟨a0, a1⟩ := ho.2.2.1
      obtain ⟨b0, b1⟩ := ho.2.2.2.1
      have ba := hb _ a0 a1
      have bb := hb _ b0 b1
      simp only [winN hlt, encN, lenN, lenI, hcl, ho.1, rdC a0 a1 hk, rdC b0 b1 hk, splC hlt (show gI (costs true P k) (gN P k).A + gI (costs true P k) (gN P k).B = ndCost true (gN P k) (costs true P k) by rw [nc2 _ _ ho.1]), Int.reduceEq, not_true_eq_false, not_false_eq_true, decide_true, decide_false, Bool.not_true, Bool.not_false, false_implies, true_implies, and_true, true_and, Bool.false_eq_true, Bool.true_eq_false, implies_true, Bool.not_not, Classical.not_not, go_sem, Int.reduceToNat, List.take_nil, Nat.zero_mul, Nat.reduceEqDiff, Nat.reduceAdd, Nat.reduceLT, Nat.reduceLeDiff, Nat.reduceMul, ↓reduceIte, reduceCtorEq]
      repeat' first | omega | exact Wk.pick [0, 1] | refine ⟨?_, ?_⟩
    · obtain ⟨a0, a1⟩ := ho.2.2.1
      obtain ⟨b0, b1⟩ := ho.2.2.2.1
      have ba := hb _ a0 a1
      have bb := hb _ b0 b1
      simp only [winN hlt, encN, lenN, lenI, hcl, ho.1, rdC a0 a1 hk, rdC b0 b1 hk, splC hlt (show (gN P k).C + (if gI (costs true P k) (gN P k).A < gI (costs true P k) (gN P k).B then gI (costs true P k) (gN P k).B else gI (costs true P k) (gN P k).A) = ndCost true (gN P k) (costs true P k) by rw [nc3 _ ho.1]), Int.reduceEq, not_true_eq_false, not_false_eq_true, decide_true, decide_false, Bool.not_true, Bool.not_false, false_implies, true_implies, and_true, true_and, Bool.false_eq_true, Bool.true_eq_false, implies_true, Bool.not_not, Classical.not_not, go_sem, Int.reduceToNat, List.take_nil, Nat.zero_mul, Nat.reduceEqDiff, Nat.reduceAdd, Nat.reduceLT, Nat.reduceLeDiff, Nat.reduceMul, ↓reduceIte, reduceCtorEq]
      repeat' first | omega | exact Wk.pick [0, 1] | refine ⟨?_, ?_⟩
    · obtain ⟨a0, a1⟩ := ho.2.2.1
      have ba := hb _ a0 a1
      have hm := mul_bnd ho.2.2.2.2 (show 0 ≤ (gN P k).C + gI (costs true P k) (gN P k).A by omega)
      simp only [winN hlt, encN, lenN, lenI, hcl, ho.1, rdC a0 a1 hk, splC hlt (show (gN P k).C + (gN P k).Bd * ((gN P k).C + gI (costs true P k) (gN P k).A) = ndCost true (gN P k) (costs true P k) by rw [nc4 _ ho.1]), Int.reduceEq, not_true_eq_false, not_false_eq_true, decide_true, decide_false, Bool.not_true, Bool.not_false, false_implies, true_implies, and_true, true_and, Bool.false_eq_true, Bool.true_eq_false, implies_true, Bool.not_not, Classical.not_not, go_sem, Int.reduceToNat, List.take_nil, Nat.zero_mul, Nat.reduceEqDiff, Nat.reduceAdd, Nat.reduceLT, Nat.reduceLeDiff, Nat.reduceMul, ↓reduceIte, reduceCtorEq]
      repeat' first | omega | exact Wk.pick [0, 1] | refine ⟨?_, ?_⟩
  · have e : k = P.length := by omega
    subst e
    rw [cpad_all]
    exact Fin.plain ⟨P.length, rfl, rfl⟩
theorem impl_worst_ {P : List Nd} {v : AV} {σ : List AB} {K : AV → List AB → Prop} (h : nodesOk P) (hl : P.length ≤ 12) (hv : Rd encNd σ v P) (hk : ∀ cap, K (.sl σ.length 0 P.length cap) (σ ++ [.rw ty_int (encInt.row (costs true P P.length)) (cap * 1)])) : CallWp Try.prog n_impl_worst [v] σ K :=
  call_new _ (rds1 hv.r) (fun c => [.sl 0 0 P.length (c 0)]) (fun c => impl_worst0 P h hl (c 0)) (fun ν c h => ⟨h.1, trivial⟩) (fun _ => rfl) (encInt.row_flat _) hk
def nodesTo (P : List Nd) (k : Nat) : Prop := ∀ i, i < k → ndOk (gN P i) i
theorem progOk_no {P : List Nd} (h : ¬ (1 ≤ P.length ∧ P.length ≤ 12)) : ¬ progOk P := fun g => h g.1
theorem progOk_at {P : List Nd} {k : Nat} (hk : k < P.length) (h : ¬ ndOk (gN P k) k) : ¬ progOk P := fun g => h (g.2.1 k hk)
theorem progOk_iff {P : List Nd} (h1 : 1 ≤ P.length ∧ P.length ≤ 12) (h2 : nodesOk P) : progOk P ↔ gI (costs true P P.length) (P.length - 1 : Nat) ≤ 600 := by
  unfold progOk
  rw [costs_at true P (show P.length - 1 < P.length by omega)]
  exact ⟨fun h => h.2.2, fun h => ⟨h1, h2, h⟩⟩
noncomputable instance (P : List Nd) : Decidable (progOk P) := Classical.propDecidable _
theorem rd_last {P : List Nd} (w : Bool) (h1 : 1 ≤ P.length) : rd (encInt.row (costs w P P.length)) ((P.length : Int) - 1).toNat = .i .i64 (cstA w P (P.length - 1)) := by
  have hl := costs_len w P P.length
  have e : ((P.length : Int) - 1).toNat = P.length - 1 := by omega
  rw [rdI (show ((P.length : Int) - 1).toNat < (costs w P P.length).length by omega)]
  rw [← costs_at w P (show P.length - 1 < P.length by omega)]
  simp [gI, e, List.getD_eq_getElem?_getD, hl, show P.length - 1 < P.length by omega]
theorem impl_ProgramValid0 (P : List Nd) (hl : P.length ≤ 1000000) (c : Nat) : CallWp Try.prog n_impl_ProgramValid [.sl 0 0 P.length c] [.ro (encNd.row P)] (fun x σ => x = .b (decide (progOk P)) ∧ σ = [.ro (encNd.row P)]) := by
  refine call_impl_ProgramValid (by simp) ?_
  simp only [c_impl_ProgramValid, not_true_eq_false, not_false_eq_true, decide_true, decide_false, Bool.not_true, Bool.not_false, false_implies, true_implies, and_true, true_and, Bool.false_eq_true, Bool.true_eq_false, implies_true, Bool.not_not, Classical.not_not, go_sem, Int.reduceToNat, List.take_nil, Nat.zero_mul, Nat.reduceEqDiff, Nat.reduceAdd, Nat.reduceLT, Nat.reduceLeDiff, Nat.reduceMul, ↓reduceIte, reduceCtorEq]
  refine impl_in_ _ _ _ ?_
  simp only [not_true_eq_false, not_false_eq_true, decide_true, decide_false, Bool.not_true, Bool.not_false, false_implies, true_implies, and_true, true_and, Bool.false_eq_true, Bool.true_eq_false, implies_true, Bool.not_not, Classical.not_not, go_sem, Int.reduceToNat, List.take_nil, Nat.zero_mul, Nat.reduceEqDiff, Nat.reduceAdd, Nat.reduceLT, Nat.reduceLeDiff, Nat.reduceMul, ↓reduceIte, reduceCtorEq]
  refine ⟨fun h1 => Fin.same (by rw [decide_eq_false (progOk_no (by omega))]), fun h1 => ?_⟩
  refine loop_count P.length (fun k => ⟨[(0, .sl 0 0 P.length c), (9, .sl 0 0 P.length c), (10, .i .i64 P.length), (11, .i .i64 k)], [.ro (encNd.row P)]⟩) (fun k => nodesTo P k) (fun i hi => absurd hi (by omega)) (Wk.pick [0]) fun k hk hto => ?_
  simp only [l0_impl_ProgramValid, not_true_eq_false, not_false_eq_true, decide_true, decide_false, Bool.not_true, Bool.not_false, false_implies, true_implies, and_true, true_and, Bool.false_eq_true, Bool.true_eq_false, implies_true, Bool.not_not, Classical.not_not, go_sem, Int.reduceToNat, List.take_nil, Nat.zero_mul, Nat.reduceEqDiff, Nat.reduceAdd, Nat.reduceLT, Nat.reduceLeDiff, Nat.reduceMul, ↓reduceIte, reduceCtorEq]
  refine ⟨fun hlt => ?_, fun hge => ?_⟩
  · simp only [winN hlt, encN, lenN, not_true_eq_false, not_false_eq_true, decide_true, decide_false, Bool.not_true, Bool.not_false, false_implies, true_implies, and_true, true_and, Bool.false_eq_true, Bool.true_eq_false, implies_true, Bool.not_not, Classical.not_not, go_sem, Int.reduceToNat, List.take_nil, Nat.zero_mul, Nat.reduceEqDiff, Nat.reduceAdd, Nat.reduceLT, Nat.reduceLeDiff, Nat.reduceMul, ↓reduceIte, reduceCtorEq]
    refine ⟨by omega, by omega, ?_⟩
    refine impl_nodeValid_ (gN P k) k (by omega) ?_
    simp only [not_true_eq_false, not_false_eq_true, decide_true, decide_false, Bool.not_true, Bool.not_false, false_implies, true_implies, and_true, true_and, Bool.false_eq_true, Bool.true_eq_false, implies_true, Bool.not_not, Classical.not_not, go_sem, Int.reduceToNat, List.take_nil, Nat.zero_mul, Nat.reduceEqDiff, Nat.reduceAdd, Nat.reduceLT, Nat.reduceLeDiff, Nat.reduceMul, ↓reduceIte, reduceCtorEq]
    refine ⟨fun hno => Fin.same (by rw [decide_eq_false (progOk_at hlt hno)]), fun hyes => ⟨by omega, ⟨hlt, fun i hi => ?_⟩, Wk.pick [0]⟩⟩
    rcases Nat.lt_succ_iff_lt_or_eq.1 hi with h2 | h2
    · exact hto i h2
    · subst h2; exact hyes
  · have e : k = P.length := by omega
    subst e
    have hn : nodesOk P := hto
    have h1' : 1 ≤ P.length := by omega
    have h2 := costs_at true P (show P.length - 1 < P.length by omega)
    refine impl_worst_ hn (by omega) (Rd.own rfl) fun cap => ?_
    simp only [rd_last true h1', lenI, costs_len, not_true_eq_false, not_false_eq_true, decide_true, decide_false, Bool.not_true, Bool.not_false, false_implies, true_implies, and_true, true_and, Bool.false_eq_true, Bool.true_eq_false, implies_true, Bool.not_not, Classical.not_not, go_sem, Int.reduceToNat, List.take_nil, Nat.zero_mul, Nat.reduceEqDiff, Nat.reduceAdd, Nat.reduceLT, Nat.reduceLeDiff, Nat.reduceMul, ↓reduceIte, reduceCtorEq]
    refine ⟨by omega, by omega, by omega, Fin.same ?_⟩
    exact congrArg AV.b (decide_eq_decide.2 (by rw [progOk_iff ⟨h1', by omega⟩ hn, h2]))
theorem impl_ProgramValid_ {P : List Nd} {v : AV} {σ : List AB} {K : AV → List AB → Prop} (hl : P.length ≤ 1000000) (hv : Rd encNd σ v P) (hk : K (.b (decide (progOk P))) σ) : CallWp Try.prog n_impl_ProgramValid [v] σ K :=
  call_rds _ (rds1 hv.r) (fun c => [.sl 0 0 P.length (c 0)]) (fun c => impl_ProgramValid0 P hl (c 0)) (fun ν c h => ⟨h.1, trivial⟩) (fun _ => rfl) rfl hk
noncomputable def bound (w : Bool) (P : List Nd) : Int := if progOk P then cstA w P (P.length - 1) else -1
theorem impl_Wcet0 (P : List Nd) (hl : P.length ≤ 1000000) (c : Nat) : CallWp Try.prog n_impl_Wcet [.sl 0 0 P.length c] [.ro (encNd.row P)] (fun x σ => x = .i .i64 (bound true P) ∧ σ = [.ro (encNd.row P)]) := by
  refine call_impl_Wcet (by simp) ?_
  simp only [c_impl_Wcet, not_true_eq_false, not_false_eq_true, decide_true, decide_false, Bool.not_true, Bool.not_false, false_implies, true_implies, and_true, true_and, Bool.false_eq_true, Bool.true_eq_false, implies_true, Bool.not_not, Classical.not_not, go_sem, Int.reduceToNat, List.take_nil, Nat.zero_mul, Nat.reduceEqDiff, Nat.reduceAdd, Nat.reduceLT, Nat.reduceLeDiff, Nat.reduceMul, ↓reduceIte, reduceCtorEq]
  refine impl_ProgramValid_ hl (Rd.own rfl) ?_
  simp only [not_true_eq_false, not_false_eq_true, decide_true, decide_false, Bool.not_true, Bool.not_false, false_implies, true_implies, and_true, true_and, Bool.false_eq_true, Bool.true_eq_false, implies_true, Bool.not_not, Classical.not_not, go_sem, Int.reduceToNat, List.take_nil, Nat.zero_mul, Nat.reduceEqDiff, Nat.reduceAdd, Nat.reduceLT, Nat.reduceLeDiff, Nat.reduceMul, ↓reduceIte, reduceCtorEq]
  refine ⟨fun h1 => Fin.same (by rw [bound, if_neg h1]), fun h1 => ?_⟩
  refine impl_worst_ h1.2.1 h1.1.2 (Rd.own rfl) fun cap => ?_
  have := h1.1
  simp only [rd_last true h1.1.1, lenI, costs_len, not_true_eq_false, not_false_eq_true, decide_true, decide_false, Bool.not_true, Bool.not_false, false_implies, true_implies, and_true, true_and, Bool.false_eq_true, Bool.true_eq_false, implies_true, Bool.not_not, Classical.not_not, go_sem, Int.reduceToNat, List.take_nil, Nat.zero_mul, Nat.reduceEqDiff, Nat.reduceAdd, Nat.reduceLT, Nat.reduceLeDiff, Nat.reduceMul, ↓reduceIte, reduceCtorEq]
  exact ⟨by omega, by omega, by omega, Fin.same (by rw [bound, if_pos h1])⟩
theorem impl_Wcet_ {P : List Nd} {v : AV} {σ : List AB} {K : AV → List AB → Prop} (hl : P.length ≤ 1000000) (hv : Rd encNd σ v P) (hk : K (.i .i64 (bound true P)) σ) : CallWp Try.prog n_impl_Wcet [v] σ K :=
  call_rds _ (rds1 hv.r) (fun c => [.sl 0 0 P.length (c 0)]) (fun c => impl_Wcet0 P hl (c 0)) (fun ν c h => ⟨h.1, trivial⟩) (fun _ => rfl) rfl hk
theorem impl_Bcet0 (P : List Nd) (hl : P.length ≤ 1000000) (c : Nat) : CallWp Try.prog n_impl_Bcet [.sl 0 0 P.length c] [.ro (encNd.row P)] (fun x σ => x = .i .i64 (bound false P) ∧ σ = [.ro (encNd.row P)]) := by
  refine call_impl_Bcet (by simp) ?_
  simp only [c_impl_Bcet, not_true_eq_false, not_false_eq_true, decide_true, decide_false, Bool.not_true, Bool.not_false, false_implies, true_implies, and_true, true_and, Bool.false_eq_true, Bool.true_eq_false, implies_true, Bool.not_not, Classical.not_not, go_sem, Int.reduceToNat, List.take_nil, Nat.zero_mul, Nat.reduceEqDiff, Nat.reduceAdd, Nat.reduceLT, Nat.reduceLeDiff, Nat.reduceMul, ↓reduceIte, reduceCtorEq]
  refine impl_ProgramValid_ hl (Rd.own rfl) ?_
  simp only [not_true_eq_false, not_false_eq_true, decide_true, decide_false, Bool.not_true, Bool.not_false, false_implies, true_implies, and_true, true_and, Bool.false_eq_true, Bool.true_eq_false, implies_true, Bool.not_not, Classical.not_not, go_sem, Int.reduceToNat, List.take_nil, Nat.zero_mul, Nat.reduceEqDiff, Nat.reduceAdd, Nat.reduceLT, Nat.reduceLeDiff, Nat.reduceMul, ↓reduceIte, reduceCtorEq]
  refine ⟨fun h1 => Fin.same (by rw [bound, if_neg h1]), fun h1 => ?_⟩
  have hl12 := h1.1
  have h := h1.2.1
  refine ⟨by omega, ?_⟩
  rw [show rep P.length [AV.i .i64 0] = encInt.row (cpad false P P.length 0) from (by rw [cpad_zero]; exact encInt.rep 0 _)]
  refine loop_count P.length (fun k => ⟨[(0, .sl 0 0 P.length c), (3, .sl 1 0 P.length P.length), (12, .sl 0 0 P.length c), (13, .i .i64 P.length), (14, .i .i64 k)], [.ro (encNd.row P), .rw ty_int (encInt.row (cpad false P P.length k)) P.length]⟩) (fun _ => True) trivial (Wk.pick [0, 1]) fun k hk _ => ?_
  have hcl := cpad_len false P hk
  simp only [l0_impl_Bcet, not_true_eq_false, not_false_eq_true, decide_true, decide_false, Bool.not_true, Bool.not_false, false_implies, true_implies, and_true, true_and, Bool.false_eq_true, Bool.true_eq_false, implies_true, Bool.not_not, Classical.not_not, go_sem, Int.reduceToNat, List.take_nil, Nat.zero_mul, Nat.reduceEqDiff, Nat.reduceAdd, Nat.reduceLT, Nat.reduceLeDiff, Nat.reduceMul, ↓reduceIte, reduceCtorEq]
  refine ⟨fun hlt => ?_, fun hge => ?_⟩
  · have ho := h k hlt
    have hb := fun a => costs_big false h hl12.2 hk (a := a)
    unfold ndOk at ho
    simp only [winN hlt, encN, lenN, not_true_eq_false, not_false_eq_true, decide_true, decide_false, Bool.not_true, Bool.not_false, false_implies, true_implies, and_true, true_and, Bool.false_eq_true, Bool.true_eq_false, implies_true, Bool.not_not, Classical.not_not, go_sem, Int.reduceToNat, List.take_nil, Nat.zero_mul, Nat.reduceEqDiff, Nat.reduceAdd, Nat.reduceLT, Nat.reduceLeDiff, Nat.reduceMul, ↓reduceIte, reduceCtorEq]
    refine ⟨by omega, by omega, ?_⟩
    refine seq_join (fun _ : Unit => ⟨[(0, .sl 0 0 P.length c), (3, .sl 1 0 P.length P.length), (12, .sl 0 0 P.length c), (13, .i .i64 P.length), (14, .i .i64 k), (4, .i .i64 k), (5, .p 2 0), (20, .i .i64 (gN P k).K), (21, .b (decide ((gN P k).K = 1 ∨ (gN P k).K = 4)))], [.ro (encNd.row P), .rw ty_int (encInt.row (cpad false P P.length k)) P.length, .rw ty_impl_Node [.i .i64 (gN P k).K, .i .i64 (gN P k).C, .i .i64 (gN P k).A, .i .i64 (gN P k).B, .i .i64 (gN P k).Bd] 5]⟩) (fun _ => True) ?_ fun _ _ => ?_
    · simp only [not_true_eq_false, not_false_eq_true, decide_true, decide_false, Bool.not_true, Bool.not_false, false_implies, true_implies, and_true, true_and, Bool.false_eq_true, Bool.true_eq_false, implies_true, Bool.not_not, Classical.not_not, go_sem, Int.reduceToNat, List.take_nil, Nat.zero_mul, Nat.reduceEqDiff, Nat.reduceAdd, Nat.reduceLT, Nat.reduceLeDiff, Nat.reduceMul, ↓reduceIte, reduceCtorEq]
      refine ⟨fun g => kJ_intro () trivial ?_, fun g => kJ_intro () trivial ?_⟩
      · rw [decide_eq_true (p := (gN P k).K = 1 ∨ (gN P k).K = 4) (.inl g), decide_eq_true g]; exact Wk.pick [0, 1, 2]
      · have e : decide ((gN P k).K = 1 ∨ (gN P k).K = 4) = decide ((gN P k).K = 4) := decide_eq_decide.2 (by omega)
        rw [e]; exact Wk.pick [0, 1, 2]
    · rcases ho with ho | ho | ho | ho
      · simp only [lenI, hcl, ho.1, splC hlt (show (gN P k).C = ndCost false (gN P k) (costs false P k) by rw [nc1 _ _ ho.1]), Int.reduceEq, or_false, false_or, or_true, true_or, not_true_eq_false, not_false_eq_true, decide_true, decide_false, Bool.not_true, Bool.not_false, false_implies, true_implies, and_true, true_and, Bool.false_eq_true, Bool.true_eq_false, implies_true, Bool.not_not, Classical.not_not, go_sem, Int.reduceToNat, List.take_nil, Nat.zero_mul, Nat.reduceEqDiff, Nat.reduceAdd, Nat.reduceLT, Nat.reduceLeDiff, Nat.reduceMul, ↓reduceIte, reduceCtorEq]
        repeat' first | omega | exact Wk.pick [0, 1] | refine ⟨?_, ?_⟩
      · obtain ⟨a0, a1⟩ := ho.2.2.1
        obtain ⟨b0, b1⟩ := ho.2.2.2.1
        have ba := hb _ a0 a1
        have bb := hb _ b0 b1
        simp only [lenI, hcl, ho.1, rdC a0 a1 hk, rdC b0 b1 hk, splC hlt (show gI (costs false P k) (gN P k).A + gI (costs false P k) (gN P k).B = ndCost false (gN P k) (costs false P k) by rw [nc2 _ _ ho.1]), Int.reduceEq, or_false, false_or, or_true, true_or, not_true_eq_false, not_false_eq_true, decide_true, decide_false, Bool.not_true, Bool.not_false, false_implies, true_implies, and_true, true_and, Bool.false_eq_true, Bool.true_eq_false, implies_true, Bool.not_not, Classical.not_not, go_sem, Int.reduceToNat, List.take_nil, Nat.zero_mul, Nat.reduceEqDiff, Nat.reduceAdd, Nat.reduceLT, Nat.reduceLeDiff, Nat.reduceMul, ↓reduceIte, reduceCtorEq]
        repeat' first | omega | exact Wk.pick [0, 1] | refine ⟨?_, ?_⟩
      · obtain ⟨a0, a1⟩ := ho.2.2.1
        obtain ⟨b0, b1⟩ := ho.2.2.2.1
        have ba := hb _ a0 a1
        have bb := hb _ b0 b1
        simp only [lenI, hcl, ho.1, rdC a0 a1 hk, rdC b0 b1 hk, splC hlt (show (gN P k).C + (if gI (costs false P k) (gN P k).B < gI (costs false P k) (gN P k).A then gI (costs false P k) (gN P k).B else gI (costs false P k) (gN P k).A) = ndCost false (gN P k) (costs false P k) by rw [nc3f _ ho.1]), Int.reduceEq, or_false, false_or, or_true, true_or, not_true_eq_false, not_false_eq_true, decide_true, decide_false, Bool.not_true, Bool.not_false, false_implies, true_implies, and_true, true_and, Bool.false_eq_true, Bool.true_eq_false, implies_true, Bool.not_not, Classical.not_not, go_sem, Int.reduceToNat, List.take_nil, Nat.zero_mul, Nat.reduceEqDiff, Nat.reduceAdd, Nat.reduceLT, Nat.reduceLeDiff, Nat.reduceMul, ↓reduceIte, reduceCtorEq]
        repeat' first | omega | exact Wk.pick [0, 1] | refine ⟨?_, ?_⟩
      · simp only [lenI, hcl, ho.1, splC hlt (show (gN P k).C = ndCost false (gN P k) (costs false P k) by rw [nc4f _ ho.1]), Int.reduceEq, or_false, false_or, or_true, true_or, not_true_eq_false, not_false_eq_true, decide_true, decide_false, Bool.not_true, Bool.not_false, false_implies, true_implies, and_true, true_and, Bool.false_eq_true, Bool.true_eq_false, implies_true, Bool.not_not, Classical.not_not, go_sem, Int.reduceToNat, List.take_nil, Nat.zero_mul, Nat.reduceEqDiff, Nat.reduceAdd, Nat.reduceLT, Nat.reduceLeDiff, Nat.reduceMul, ↓reduceIte, reduceCtorEq]
        repeat' first | omega | exact Wk.pick [0, 1] | refine ⟨?_, ?_⟩
  · have e : k = P.length := by omega
    subst e
    rw [cpad_all]
    simp only [rd_last false h1.1.1, lenI, costs_len, not_true_eq_false, not_false_eq_true, decide_true, decide_false, Bool.not_true, Bool.not_false, false_implies, true_implies, and_true, true_and, Bool.false_eq_true, Bool.true_eq_false, implies_true, Bool.not_not, Classical.not_not, go_sem, Int.reduceToNat, List.take_nil, Nat.zero_mul, Nat.reduceEqDiff, Nat.reduceAdd, Nat.reduceLT, Nat.reduceLeDiff, Nat.reduceMul, ↓reduceIte, reduceCtorEq]
    exact ⟨by omega, by omega, by omega, Fin.same (by rw [bound, if_pos h1])⟩
theorem impl_Bcet_ {P : List Nd} {v : AV} {σ : List AB} {K : AV → List AB → Prop} (hl : P.length ≤ 1000000) (hv : Rd encNd σ v P) (hk : K (.i .i64 (bound false P)) σ) : CallWp Try.prog n_impl_Bcet [v] σ K :=
  call_rds _ (rds1 hv.r) (fun c => [.sl 0 0 P.length (c 0)]) (fun c => impl_Bcet0 P hl (c 0)) (fun ν c h => ⟨h.1, trivial⟩) (fun _ => rfl) rfl hk
end Go.Proofs.Ytfngcejaphhmmaa
