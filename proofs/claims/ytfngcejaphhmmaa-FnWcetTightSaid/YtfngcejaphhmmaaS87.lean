import Derived.Test.YtfngcejaphhmmaaS86
namespace Go.Proofs.Ytfngcejaphhmmaa
open Go.Abs Go.Ds
set_option linter.unusedSimpArgs false
set_option linter.unusedVariables false
set_option maxRecDepth 20000
set_option maxHeartbeats 2000000
theorem cut_small {P : List Nd} (h : nodesOk P) {a : Nat} (ha : a < P.length) (hc : cstA true P a ≤ 600) : gI (costsC true P P.length) (a : Nat) = cstA true P a := by
  have := (costs_cut true h P.length (Nat.le_refl _)).2 a ha
  rw [this, costs_at true P ha, if_neg (by omega)]
theorem cut_small' {P : List Nd} (h : nodesOk P) {a : Int} (h0 : 0 ≤ a) (ha : a.toNat < P.length) (hc : cstA true P a.toNat ≤ 600) : gI (costsC true P P.length) a = cstA true P a.toNat := by
  have := cut_small h ha hc
  rwa [show ((a.toNat : Nat) : Int) = a by omega] at this
theorem row_app (L R : List Int) : List.take L.length (encInt.row L) ++ encInt.row R = encInt.row (L ++ R) := by
  rw [List.take_of_length_le (by rw [lenI]; omega), encInt.row_append]
theorem kids_small {P : List Nd} (h : nodesOk P) {k : Nat} (hk : k < P.length) (hc : cstA true P k ≤ 600) :
    ((gN P k).K = 2 → cstA true P (gN P k).A.toNat ≤ 600 ∧ cstA true P (gN P k).B.toNat ≤ 600) ∧ ((gN P k).K = 3 → cstA true P (gN P k).A.toNat ≤ 600 ∧ cstA true P (gN P k).B.toNat ≤ 600) ∧ ((gN P k).K = 4 → (gN P k).Bd ≠ 0 → cstA true P (gN P k).A.toNat ≤ 600) := by
  have ho := h k hk
  refine ⟨fun g => ?_, fun g => ?_, fun g g0 => ?_⟩
  · obtain ⟨e, hA, hB⟩ := cost_two true ho g
    have := cost_pos h _ _ (Nat.le_refl _) (show (gN P k).A.toNat < P.length by omega)
    have := cost_pos h _ _ (Nat.le_refl _) (show (gN P k).B.toNat < P.length by omega)
    omega
  · obtain ⟨e, hA, hB, hC⟩ := cost_three ho g
    split at e <;> omega
  · obtain ⟨e, hA, hC, b0, b1⟩ := cost_four ho g
    have hp := cost_pos h _ _ (Nat.le_refl _) (show (gN P k).A.toNat < P.length by omega)
    have hb : (gN P k).Bd = 1 ∨ (gN P k).Bd = 2 ∨ (gN P k).Bd = 3 ∨ (gN P k).Bd = 4 := by omega
    rcases hb with hb | hb | hb | hb <;> rw [hb] at e <;> omega
def wlst (P : List Nd) (k m : Nat) : List Int := (gN P k).Bd :: (List.replicate m (wch P (gN P k).A.toNat)).flatten
theorem wlst_succ (P : List Nd) (k m : Nat) : wlst P k (m + 1) = wlst P k m ++ wch P (gN P k).A.toNat := by
  unfold wlst
  rw [rep_snoc]; rfl
theorem wlst_all {P : List Nd} (h : nodesOk P) {k : Nat} (hk : k < P.length) (hK : (gN P k).K = 4) : wlst P k (gN P k).Bd.toNat = wch P k := by
  rw [wch_four h hk hK, wc, if_neg (by omega)]; rfl
theorem wlst_len (P : List Nd) (k : Nat) (hb : (wch P (gN P k).A.toNat).length ≤ 600) : ∀ m : Nat, (wlst P k m).length ≤ 1 + m * 600
  | 0 => by simp [wlst]
  | m + 1 => by
    have := wlst_len P k hb m
    rw [wlst_succ, List.length_append]; omega
theorem spec_l8Worst0 (P : List Nd) (h : nodesOk P) (hl : P.length ≤ 12) : ∀ n k : Nat, k < n → k < P.length → cstA true P k ≤ 600 → ∀ c c' : Nat, CallWp Try.prog n_spec_l8Worst [.sl 0 0 P.length c, .sl 1 0 P.length c', .i .i64 k] [.ro (encNd.row P), .ro (encInt.row (costsC true P P.length))]
    (fun x σ => ∃ cap, x = .sl 2 0 (wch P k).length cap ∧ σ = [.ro (encNd.row P), .ro (encInt.row (costsC true P P.length))] ++ [.rw ty_int (encInt.row (wch P k)) (cap * 1)])
  | 0, k, hkn, _, _, _, _ => absurd hkn (by omega)
  | n + 1, k, hkn, hk, hc, c, c' => by
    have ih : ∀ (a : Int) (v u : AV) (σ : List AB) (K : AV → List AB → Prop), 0 ≤ a → a.toNat < n → a.toNat < P.length → cstA true P a.toNat ≤ 600 → Rd encNd σ v P → Rd encInt σ u (costsC true P P.length) → (∀ cap, K (.sl σ.length 0 (wch P a.toNat).length cap) (σ ++ [.rw ty_int (encInt.row (wch P a.toNat)) (cap * 1)])) → CallWp Try.prog n_spec_l8Worst [v, u, .i .i64 a] σ K := by
      intro a v u σ K h0 h1 h2 h3 h4 h5 h6
      exact call_new _ (rds_cons h4.r (rds1 h5.r)) (fun c => [.sl 0 0 P.length (c 0), .sl 1 0 (costsC true P P.length).length (c 1), .i .i64 a]) (fun c => by have := spec_l8Worst0 P h hl n a.toNat h1 h2 h3 (c 0) (c 1); rw [show ((a.toNat : Nat) : Int) = a by omega] at this; rw [costsC_len]; exact this) (fun ν c h => ⟨h.1, h.2.1, .inl rfl, trivial⟩) (fun _ => rfl) (encInt.row_flat _) h6
    have ho := h k hk
    have hcl := costsC_len true P P.length
    have kd := kid ho
    have ks := kids_small h hk hc
    have hlen := fun j : Nat => fun hj : j < P.length => wch_len h j j (Nat.le_refl _) hj
    have rc : ∀ {σ : List AB}, cellsOf σ 1 = some (encInt.row (costsC true P P.length)) → Rd encInt σ (.sl 1 0 P.length c') (costsC true P P.length) := fun {σ} g => by have := Rd.own (E := encInt) (σ := σ) (L := costsC true P P.length) (n := 1) (cap := c') g; rwa [hcl] at this
    refine call_spec_l8Worst (by simp) ?_
    simp only [c_spec_l8Worst, winN hk, encN, lenN, not_true_eq_false, not_false_eq_true, decide_true, decide_false, Bool.not_true, Bool.not_false, false_implies, true_implies, and_true, true_and, Bool.false_eq_true, Bool.true_eq_false, implies_true, Bool.not_not, Classical.not_not, go_sem, Int.reduceToNat, List.take_nil, Nat.zero_mul, Nat.reduceEqDiff, Nat.reduceAdd, Nat.reduceLT, Nat.reduceLeDiff, Nat.reduceMul, ↓reduceIte, reduceCtorEq]
    refine ⟨by omega, by omega, ?_⟩
    have ho' := ho
    unfold ndOk at ho
    rcases ho with ho | ho | ho | ho
    · simp only [ho.1, Int.reduceEq, not_true_eq_false, not_false_eq_true, decide_true, decide_false, Bool.not_true, Bool.not_false, false_implies, true_implies, and_true, true_and, Bool.false_eq_true, Bool.true_eq_false, implies_true, Bool.not_not, Classical.not_not, go_sem, Int.reduceToNat, List.take_nil, Nat.zero_mul, Nat.reduceEqDiff, Nat.reduceAdd, Nat.reduceLT, Nat.reduceLeDiff, Nat.reduceMul, ↓reduceIte, reduceCtorEq]
      rw [wch_one ho.1]
      exact Fin.pick [0, 1, 3] (.sl 2 0 0 0) _ ⟨0, rfl, rfl⟩
    · have e := wch_two h hk ho.1
      obtain ⟨a1, b1⟩ := kd.1 ho.1
      obtain ⟨a2, b2⟩ := ks.1 ho.1
      have la := hlen (gN P k).A.toNat (by omega)
      have lb := hlen (gN P k).B.toNat (by omega)
      simp only [ho.1, Int.reduceEq, not_true_eq_false, not_false_eq_true, decide_true, decide_false, Bool.not_true, Bool.not_false, false_implies, true_implies, and_true, true_and, Bool.false_eq_true, Bool.true_eq_false, implies_true, Bool.not_not, Classical.not_not, go_sem, Int.reduceToNat, List.take_nil, Nat.zero_mul, Nat.reduceEqDiff, Nat.reduceAdd, Nat.reduceLT, Nat.reduceLeDiff, Nat.reduceMul, ↓reduceIte, reduceCtorEq]
      refine ih _ _ _ _ _ (by omega) (by omega) (by omega) a2 (Rd.own rfl) (rc rfl) fun cap => ?_
      simp only [not_true_eq_false, not_false_eq_true, decide_true, decide_false, Bool.not_true, Bool.not_false, false_implies, true_implies, and_true, true_and, Bool.false_eq_true, Bool.true_eq_false, implies_true, Bool.not_not, Classical.not_not, go_sem, Int.reduceToNat, List.take_nil, Nat.zero_mul, Nat.reduceEqDiff, Nat.reduceAdd, Nat.reduceLT, Nat.reduceLeDiff, Nat.reduceMul, ↓reduceIte, reduceCtorEq]
      refine ih _ _ _ _ _ (by omega) (by omega) (by omega) b2 (Rd.own rfl) (rc rfl) fun cap2 => ?_
      simp only [lenI, not_true_eq_false, not_false_eq_true, decide_true, decide_false, Bool.not_true, Bool.not_false, false_implies, true_implies, and_true, true_and, Bool.false_eq_true, Bool.true_eq_false, implies_true, Bool.not_not, Classical.not_not, go_sem, Int.reduceToNat, List.take_nil, Nat.zero_mul, Nat.reduceEqDiff, Nat.reduceAdd, Nat.reduceLT, Nat.reduceLeDiff, Nat.reduceMul, ↓reduceIte, reduceCtorEq]
      have el : (wch P (gN P k).A.toNat).length + (wch P (gN P k).B.toNat).length = (wch P k).length := by rw [e, List.length_append]
      rw [winI, row_app, ← e, el]
      have := hlen k hk
      exact ⟨by omega, fun cap' _ => Fin.pick [0, 1, 5] (.sl 2 0 (wch P k).length cap') _ ⟨cap', rfl, rfl⟩⟩
    · have e := wch_three h hk ho.1
      obtain ⟨a1, b1⟩ := kd.2.1 ho.1
      obtain ⟨a2, b2⟩ := ks.2.1 ho.1
      have la := hlen (gN P k).A.toNat (by omega)
      have lb := hlen (gN P k).B.toNat (by omega)
      have ca := cut_small' h (by omega) (show (gN P k).A.toNat < P.length by omega) a2
      have cb := cut_small' h (by omega) (show (gN P k).B.toNat < P.length by omega) b2
      have ra : rd (encInt.row (costsC true P P.length)) (gN P k).A.toNat = .i .i64 (cstA true P (gN P k).A.toNat) := by rw [rdCC (by omega) (by omega), ca]
      have rb : rd (encInt.row (costsC true P P.length)) (gN P k).B.toNat = .i .i64 (cstA true P (gN P k).B.toNat) := by rw [rdCC (by omega) (by omega), cb]
      simp only [ho.1, Int.reduceEq, ra, rb, lenI, hcl, not_true_eq_false, not_false_eq_true, decide_true, decide_false, Bool.not_true, Bool.not_false, false_implies, true_implies, and_true, true_and, Bool.false_eq_true, Bool.true_eq_false, implies_true, Bool.not_not, Classical.not_not, go_sem, Int.reduceToNat, List.take_nil, Nat.zero_mul, Nat.reduceEqDiff, Nat.reduceAdd, Nat.reduceLT, Nat.reduceLeDiff, Nat.reduceMul, ↓reduceIte, reduceCtorEq]
      refine ⟨by omega, by omega, by omega, by omega, fun g => ?_, fun g => ?_⟩
      · have hw : wc P k = 0 := by rw [wc, if_pos ho.1, if_pos g]
        rw [hw, if_pos rfl] at e
        have := hlen k hk
        refine ih _ _ _ _ _ (by omega) (by omega) (by omega) a2 (Rd.own rfl) (rc rfl) fun cap => ?_
        simp only [lenI, winI, not_true_eq_false, not_false_eq_true, decide_true, decide_false, Bool.not_true, Bool.not_false, false_implies, true_implies, and_true, true_and, Bool.false_eq_true, Bool.true_eq_false, implies_true, Bool.not_not, Classical.not_not, go_sem, Int.reduceToNat, List.take_nil, Nat.zero_mul, Nat.reduceEqDiff, Nat.reduceAdd, Nat.reduceLT, Nat.reduceLeDiff, Nat.reduceMul, ↓reduceIte, reduceCtorEq]
        have el : 1 + (wch P (gN P k).A.toNat).length = (wch P k).length := by rw [e, List.length_cons]; omega
        have er : List.take 1 [AV.i .i64 0] ++ encInt.row (wch P (gN P k).A.toNat) = encInt.row (wch P k) := by rw [e]; rfl
        rw [el, er]
        exact ⟨by omega, fun cap' _ => Fin.pick [0, 1, 5] (.sl 2 0 (wch P k).length cap') _ ⟨cap', rfl, rfl⟩⟩
      · have hw : wc P k = 1 := by rw [wc, if_pos ho.1, if_neg g]
        rw [hw, if_neg (by decide)] at e
        have := hlen k hk
        refine ih _ _ _ _ _ (by omega) (by omega) (by omega) b2 (Rd.own rfl) (rc rfl) fun cap => ?_
        simp only [lenI, winI, not_true_eq_false, not_false_eq_true, decide_true, decide_false, Bool.not_true, Bool.not_false, false_implies, true_implies, and_true, true_and, Bool.false_eq_true, Bool.true_eq_false, implies_true, Bool.not_not, Classical.not_not, go_sem, Int.reduceToNat, List.take_nil, Nat.zero_mul, Nat.reduceEqDiff, Nat.reduceAdd, Nat.reduceLT, Nat.reduceLeDiff, Nat.reduceMul, ↓reduceIte, reduceCtorEq]
        have el : 1 + (wch P (gN P k).B.toNat).length = (wch P k).length := by rw [e, List.length_cons]; omega
        have er : List.take 1 [AV.i .i64 1] ++ encInt.row (wch P (gN P k).B.toNat) = encInt.row (wch P k) := by rw [e]; rfl
        rw [el, er]
        exact ⟨by omega, fun cap' _ => Fin.pick [0, 1, 5] (.sl 2 0 (wch P k).length cap') _ ⟨cap', rfl, rfl⟩⟩
    · have e := wch_four h hk ho.1
      have a1 := kd.2.2 ho.1
      have a2 := ks.2.2 ho.1
      have la := hlen (gN P k).A.toNat (by omega)
      have z : wlst P k 0 = [(gN P k).Bd] := by simp [wlst]
      simp only [ho.1, Int.reduceEq, not_true_eq_false, not_false_eq_true, decide_true, decide_false, Bool.not_true, Bool.not_false, false_implies, true_implies, and_true, true_and, Bool.false_eq_true, Bool.true_eq_false, implies_true, Bool.not_not, Classical.not_not, go_sem, Int.reduceToNat, List.take_nil, Nat.zero_mul, Nat.reduceEqDiff, Nat.reduceAdd, Nat.reduceLT, Nat.reduceLeDiff, Nat.reduceMul, ↓reduceIte, reduceCtorEq]
      refine loop_intro (fun i : Nat × Nat => ⟨[(0, .sl 0 0 P.length c), (1, .sl 1 0 P.length c'), (7, .p 2 0), (8, .sl 3 0 (wlst P k i.2).length i.1), (9, .i .i64 i.2)], [.ro (encNd.row P), .ro (encInt.row (costsC true P P.length)), .rw ty_impl_Node [.i .i64 4, .i .i64 (gN P k).C, .i .i64 (gN P k).A, .i .i64 (gN P k).B, .i .i64 (gN P k).Bd] 5, .rw ty_int (encInt.row (wlst P k i.2)) i.1]⟩) (fun i => i.2 ≤ (gN P k).Bd.toNat) (fun i => (gN P k).Bd.toNat - i.2) (1, 0) (Nat.zero_le _) (by simp only [z]; exact Wk.pick [0, 1, 2, 3]) ?_
      rintro ⟨cap, m⟩ hm
      simp only at hm
      simp only [l0_spec_l8Worst, not_true_eq_false, not_false_eq_true, decide_true, decide_false, Bool.not_true, Bool.not_false, false_implies, true_implies, and_true, true_and, Bool.false_eq_true, Bool.true_eq_false, implies_true, Bool.not_not, Classical.not_not, go_sem, Int.reduceToNat, List.take_nil, Nat.zero_mul, Nat.reduceEqDiff, Nat.reduceAdd, Nat.reduceLT, Nat.reduceLeDiff, Nat.reduceMul, ↓reduceIte, reduceCtorEq]
      refine ⟨fun hlt => ?_, fun hge => ?_⟩
      · have hbd : (gN P k).Bd ≠ 0 := by omega
        have a3 := a2 hbd
        refine ih _ _ _ _ _ (by omega) (by omega) (by omega) a3 (Rd.own rfl) (rc rfl) fun cap2 => ?_
        simp only [lenI, winI, row_app, not_true_eq_false, not_false_eq_true, decide_true, decide_false, Bool.not_true, Bool.not_false, false_implies, true_implies, and_true, true_and, Bool.false_eq_true, Bool.true_eq_false, implies_true, Bool.not_not, Classical.not_not, go_sem, Int.reduceToNat, List.take_nil, Nat.zero_mul, Nat.reduceEqDiff, Nat.reduceAdd, Nat.reduceLT, Nat.reduceLeDiff, Nat.reduceMul, ↓reduceIte, reduceCtorEq]
        have hw := wlst_len P k (by omega) m
        have hn : (wlst P k m).length + (wch P (gN P k).A.toNat).length = (wlst P k (m + 1)).length := by rw [wlst_succ, List.length_append]
        rw [← wlst_succ, hn]
        refine ⟨by omega, fun cap' _ => ⟨by omega, (cap', m + 1), ⟨by simp only; omega, by simp only; omega⟩, Wk.pick [0, 1, 2, 5]⟩⟩
      · have em : m = (gN P k).Bd.toNat := by omega
        subst em
        rw [wlst_all h hk ho.1]
        exact Fin.pick [0, 1, 3] (.sl 2 0 (wch P k).length cap) _ ⟨cap, rfl, rfl⟩
theorem spec_l8Worst_ {P : List Nd} {a : Int} {v u : AV} {σ : List AB} {K : AV → List AB → Prop} (h : nodesOk P) (hl : P.length ≤ 12) (h0 : 0 ≤ a) (h2 : a.toNat < P.length) (h3 : cstA true P a.toNat ≤ 600) (h4 : Rd encNd σ v P) (h5 : Rd encInt σ u (costsC true P P.length)) (h6 : ∀ cap, K (.sl σ.length 0 (wch P a.toNat).length cap) (σ ++ [.rw ty_int (encInt.row (wch P a.toNat)) (cap * 1)])) : CallWp Try.prog n_spec_l8Worst [v, u, .i .i64 a] σ K :=
  call_new _ (rds_cons h4.r (rds1 h5.r)) (fun c => [.sl 0 0 P.length (c 0), .sl 1 0 (costsC true P P.length).length (c 1), .i .i64 a]) (fun c => by have := spec_l8Worst0 P h hl (a.toNat + 1) a.toNat (by omega) h2 h3 (c 0) (c 1); rw [show ((a.toNat : Nat) : Int) = a by omega] at this; rw [costsC_len]; exact this) (fun ν c h => ⟨h.1, h.2.1, .inl rfl, trivial⟩) (fun _ => rfl) (encInt.row_flat _) h6
noncomputable def worstOf (P : List Nd) : List Int := if progOk P then wch P (P.length - 1) else []
theorem spec_WorstChoices0 (P : List Nd) (hl : P.length ≤ 1000000) (c : Nat) : CallWp Try.prog n_spec_WorstChoices [.sl 0 0 P.length c] [.ro (encNd.row P)] (fun x σ => ∃ cap, x = .sl 1 0 (worstOf P).length cap ∧ σ = [.ro (encNd.row P)] ++ [.rw ty_int (encInt.row (worstOf P)) (cap * 1)]) := by
  refine call_spec_WorstChoices (by simp) ?_
  simp only [c_spec_WorstChoices, not_true_eq_false, not_false_eq_true, decide_true, decide_false, Bool.not_true, Bool.not_false, false_implies, true_implies, and_true, true_and, Bool.false_eq_true, Bool.true_eq_false, implies_true, Bool.not_not, Classical.not_not, go_sem, Int.reduceToNat, List.take_nil, Nat.zero_mul, Nat.reduceEqDiff, Nat.reduceAdd, Nat.reduceLT, Nat.reduceLeDiff, Nat.reduceMul, ↓reduceIte, reduceCtorEq]
  refine spec_ProgramValid_ hl (Rd.own rfl) ?_
  simp only [not_true_eq_false, not_false_eq_true, decide_true, decide_false, Bool.not_true, Bool.not_false, false_implies, true_implies, and_true, true_and, Bool.false_eq_true, Bool.true_eq_false, implies_true, Bool.not_not, Classical.not_not, go_sem, Int.reduceToNat, List.take_nil, Nat.zero_mul, Nat.reduceEqDiff, Nat.reduceAdd, Nat.reduceLT, Nat.reduceLeDiff, Nat.reduceMul, ↓reduceIte, reduceCtorEq]
  refine ⟨fun h1 => ?_, fun h1 => ?_⟩
  · rw [worstOf, if_neg h1]
    exact Fin.plain ⟨0, rfl, rfl⟩
  · have h2 := h1.1
    have h3 := h1.2.2
    refine spec_l8Costs_ true h1.2.1 h2.2 (Rd.own rfl) fun cap => ?_
    simp only [not_true_eq_false, not_false_eq_true, decide_true, decide_false, Bool.not_true, Bool.not_false, false_implies, true_implies, and_true, true_and, Bool.false_eq_true, Bool.true_eq_false, implies_true, Bool.not_not, Classical.not_not, go_sem, Int.reduceToNat, List.take_nil, Nat.zero_mul, Nat.reduceEqDiff, Nat.reduceAdd, Nat.reduceLT, Nat.reduceLeDiff, Nat.reduceMul, ↓reduceIte, reduceCtorEq]
    refine ⟨by omega, ?_⟩
    have e : ((P.length : Int) - 1).toNat = P.length - 1 := by omega
    have hcl := costsC_len true P P.length
    have rc : ∀ {σ : List AB}, cellsOf σ 1 = some (encInt.row (costsC true P P.length)) → Rd encInt σ (.sl 1 0 P.length cap) (costsC true P P.length) := fun {σ} g => by have := Rd.own (E := encInt) (σ := σ) (L := costsC true P P.length) (n := 1) (cap := cap) g; rwa [hcl] at this
    refine spec_l8Worst_ h1.2.1 h2.2 (by omega) (by omega) (by rw [e]; exact h3) (Rd.own rfl) (rc rfl) fun cap2 => ?_
    rw [e]
    simp only [not_true_eq_false, not_false_eq_true, decide_true, decide_false, Bool.not_true, Bool.not_false, false_implies, true_implies, and_true, true_and, Bool.false_eq_true, Bool.true_eq_false, implies_true, Bool.not_not, Classical.not_not, go_sem, Int.reduceToNat, List.take_nil, Nat.zero_mul, Nat.reduceEqDiff, Nat.reduceAdd, Nat.reduceLT, Nat.reduceLeDiff, Nat.reduceMul, ↓reduceIte, reduceCtorEq]
    rw [worstOf, if_pos h1]
    exact Fin.pick [0, 2] (.sl 1 0 (wch P (P.length - 1)).length cap2) _ ⟨cap2, rfl, rfl⟩
theorem spec_WorstChoices_ {P : List Nd} {v : AV} {σ : List AB} {K : AV → List AB → Prop} (hl : P.length ≤ 1000000) (hv : Rd encNd σ v P) (hk : ∀ cap, K (.sl σ.length 0 (worstOf P).length cap) (σ ++ [.rw ty_int (encInt.row (worstOf P)) (cap * 1)])) : CallWp Try.prog n_spec_WorstChoices [v] σ K :=
  call_new _ (rds1 hv.r) (fun c => [.sl 0 0 P.length (c 0)]) (fun c => spec_WorstChoices0 P hl (c 0)) (fun ν c h => ⟨h.1, trivial⟩) (fun _ => rfl) (encInt.row_flat _) hk
end Go.Proofs.Ytfngcejaphhmmaa
