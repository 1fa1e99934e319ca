import Derived.Test.YtfngcejaphhmmaaS54
namespace Go.Proofs.Ytfngcejaphhmmaa
open Go.Abs Go.Ds
set_option linter.unusedSimpArgs false
set_option linter.unusedVariables false
set_option maxRecDepth 20000
set_option maxHeartbeats 4000000
theorem impl_Hyperperiod0 (S : List Task) (hs : S.length ≤ 1048576) (hS : setOk S) (c : Nat) : CallWp Try.prog n_impl_Hyperperiod [.sl 0 0 S.length c] [.ro (encTask.row S)] (fun x σ => x = .i .i64 (hyperN S : Nat) ∧ σ = [.ro (encTask.row S)]) := by
  refine call_impl_Hyperperiod (by simp) ?_
  simp only [c_impl_Hyperperiod, not_true_eq_false, not_false_eq_true, decide_true, decide_false, Bool.not_true, Bool.not_false, false_implies, true_implies, and_true, true_and, Bool.false_eq_true, Bool.true_eq_false, implies_true, Bool.not_not, Classical.not_not, go_sem, Int.reduceToNat, List.take_nil, Nat.zero_mul, Nat.reduceEqDiff, Nat.reduceAdd, Nat.reduceLT, Nat.reduceLeDiff, Nat.reduceMul, ↓reduceIte, reduceCtorEq]
  refine impl_SetValid_ (L := S) (by omega) (Rd.own rfl) ?_
  simp only [hS, not_true_eq_false, not_false_eq_true, decide_true, decide_false, Bool.not_true, Bool.not_false, false_implies, true_implies, and_true, true_and, Bool.false_eq_true, Bool.true_eq_false, implies_true, Bool.not_not, Classical.not_not, go_sem, Int.reduceToNat, List.take_nil, Nat.zero_mul, Nat.reduceEqDiff, Nat.reduceAdd, Nat.reduceLT, Nat.reduceLeDiff, Nat.reduceMul, ↓reduceIte, reduceCtorEq]
  refine impl_hyper_ hS (Rd.own rfl) ?_
  simp only [hS, not_true_eq_false, not_false_eq_true, decide_true, decide_false, Bool.not_true, Bool.not_false, false_implies, true_implies, and_true, true_and, Bool.false_eq_true, Bool.true_eq_false, implies_true, Bool.not_not, Classical.not_not, go_sem, Int.reduceToNat, List.take_nil, Nat.zero_mul, Nat.reduceEqDiff, Nat.reduceAdd, Nat.reduceLT, Nat.reduceLeDiff, Nat.reduceMul, ↓reduceIte, reduceCtorEq]
  exact Fin.plain ⟨rfl, rfl⟩
theorem impl_Hyperperiod_ {S : List Task} (hS : setOk S) {v : AV} {σ : List AB} (h : Rd encTask σ v S) {K : AV → List AB → Prop} (hk : K (.i .i64 (hyperN S : Nat)) σ) : CallWp Try.prog n_impl_Hyperperiod [v] σ K :=
  call_rds _ (rds1 h.r) (fun c => [.sl 0 0 S.length (c 0)]) (fun c => impl_Hyperperiod0 S (by have := hS.1; omega) hS (c 0)) (fun ν c h => ⟨h.1, trivial⟩) (fun _ => rfl) rfl hk
theorem cntK_bound (S : List Task) (r i : Nat) : ∀ m : Nat, 0 ≤ cntK S r i m ∧ cntK S r i m ≤ m
  | 0 => ⟨Int.le_refl _, Int.le_refl _⟩
  | m + 1 => by
    have ih := cntK_bound S r i m
    have e0 : cntK S r i (m + 1) = cntK S r i m + if tabAt S (r + m) = (i : Int) then 1 else 0 := rfl
    rw [e0]; split <;> omega
def insK (S : List Task) (r i D m : Nat) : Int := cntK S r i (if m ≤ D then m else D)
theorem insK_zero (S : List Task) (r i D : Nat) : insK S r i D 0 = 0 := by unfold insK; rw [if_pos (Nat.zero_le _)]; rfl
theorem insK_in {S : List Task} {r i D m : Nat} (h : m < D) : insK S r i D (m + 1) = insK S r i D m + if tabAt S (r + m) = (i : Int) then 1 else 0 := by
  unfold insK; rw [if_pos (by omega), if_pos (by omega)]; rfl
theorem insK_out {S : List Task} {r i D m : Nat} (h : ¬ m < D) : insK S r i D (m + 1) = insK S r i D m := by
  unfold insK
  rw [if_neg (by omega)]
  split
  · rw [show m = D by omega]
  · rfl
theorem insK_bound (S : List Task) (r i D m : Nat) : 0 ≤ insK S r i D m ∧ insK S r i D m ≤ m := by
  unfold insK
  split
  · exact cntK_bound S r i m
  · have := cntK_bound S r i D; omega
theorem tab_feas {S : List Task} (h : tabOk S) : ∀ t : Nat, dbf S t ≤ t := dbf_fits h.1.1 (hyperN_hyper h.1.1) h.1.2
theorem impl_TableValid0 (S : List Task) (h : tabOk S) (c c' : Nat) (hc' : hyperN S ≤ c') : CallWp Try.prog n_impl_TableValid [.sl 0 0 S.length c, .sl 1 0 (hyperN S) c'] [.ro (encTask.row S), .ro (encInt.row (tabL S (hyperN S)))]
    (fun x σ => x = .b true ∧ σ = [.ro (encTask.row S), .ro (encInt.row (tabL S (hyperN S)))]) := by
  have hS := h.1.1
  have hf := tab_feas h
  have hH := h.2
  have h5 := hS.1
  have hTl := tabL_len S (hyperN S)
  refine call_impl_TableValid (by simp) ?_
  simp only [c_impl_TableValid, not_true_eq_false, not_false_eq_true, decide_true, decide_false, Bool.not_true, Bool.not_false, false_implies, true_implies, and_true, true_and, Bool.false_eq_true, Bool.true_eq_false, implies_true, Bool.not_not, Classical.not_not, go_sem, Int.reduceToNat, List.take_nil, Nat.zero_mul, Nat.reduceEqDiff, Nat.reduceAdd, Nat.reduceLT, Nat.reduceLeDiff, Nat.reduceMul, ↓reduceIte, reduceCtorEq]
  refine impl_SetValid_ (L := S) (by omega) (Rd.own rfl) ?_
  simp only [hS, not_true_eq_false, not_false_eq_true, decide_true, decide_false, Bool.not_true, Bool.not_false, false_implies, true_implies, and_true, true_and, Bool.false_eq_true, Bool.true_eq_false, implies_true, Bool.not_not, Classical.not_not, go_sem, Int.reduceToNat, List.take_nil, Nat.zero_mul, Nat.reduceEqDiff, Nat.reduceAdd, Nat.reduceLT, Nat.reduceLeDiff, Nat.reduceMul, ↓reduceIte, reduceCtorEq]
  refine impl_hyper_ hS (Rd.own rfl) ?_
  simp only [not_true_eq_false, not_false_eq_true, decide_true, decide_false, Bool.not_true, Bool.not_false, false_implies, true_implies, and_true, true_and, Bool.false_eq_true, Bool.true_eq_false, implies_true, Bool.not_not, Classical.not_not, go_sem, Int.reduceToNat, List.take_nil, Nat.zero_mul, Nat.reduceEqDiff, Nat.reduceAdd, Nat.reduceLT, Nat.reduceLeDiff, Nat.reduceMul, ↓reduceIte, reduceCtorEq]
  refine ⟨fun h => by omega, fun _ => ?_⟩
  refine loop_count (hyperN S) (fun k => ⟨[(0, .sl 0 0 S.length c), (1, .sl 1 0 (hyperN S) c'), (29, .sl 1 0 (hyperN S) c'), (30, .i .i64 (hyperN S : Nat)), (31, .i .i64 k)], [.ro (encTask.row S), .ro (encInt.row (tabL S (hyperN S)))]⟩) (fun _ => True) trivial (Wk.pick [0, 1]) fun k hk _ => ?_
  simp only [l3_impl_TableValid, not_true_eq_false, not_false_eq_true, decide_true, decide_false, Bool.not_true, Bool.not_false, false_implies, true_implies, and_true, true_and, Bool.false_eq_true, Bool.true_eq_false, implies_true, Bool.not_not, Classical.not_not, go_sem, Int.reduceToNat, List.take_nil, Nat.zero_mul, Nat.reduceEqDiff, Nat.reduceAdd, Nat.reduceLT, Nat.reduceLeDiff, Nat.reduceMul, ↓reduceIte, reduceCtorEq]
  refine ⟨fun hlt => ?_, fun hge => ?_⟩
  · have hkl : k < (tabL S (hyperN S)).length := by omega
    have hr := tabAt_range (S := S) k
    simp only [rdI hkl, tabL_get hkl, lenI, hTl, not_true_eq_false, not_false_eq_true, decide_true, decide_false, Bool.not_true, Bool.not_false, false_implies, true_implies, and_true, true_and, Bool.false_eq_true, Bool.true_eq_false, implies_true, Bool.not_not, Classical.not_not, go_sem, Int.reduceToNat, List.take_nil, Nat.zero_mul, Nat.reduceEqDiff, Nat.reduceAdd, Nat.reduceLT, Nat.reduceLeDiff, Nat.reduceMul, ↓reduceIte, reduceCtorEq]
    refine ⟨by omega, by omega, by omega, impl_in_ _ _ _ ?_⟩
    simp only [not_true_eq_false, not_false_eq_true, decide_true, decide_false, Bool.not_true, Bool.not_false, false_implies, true_implies, and_true, true_and, Bool.false_eq_true, Bool.true_eq_false, implies_true, Bool.not_not, Classical.not_not, go_sem, Int.reduceToNat, List.take_nil, Nat.zero_mul, Nat.reduceEqDiff, Nat.reduceAdd, Nat.reduceLT, Nat.reduceLeDiff, Nat.reduceMul, ↓reduceIte, reduceCtorEq]
    repeat' first | omega | (exfalso; omega) | exact Wk.pick [0, 1] | refine ⟨?_, ?_⟩ | intro _
  refine loop_count S.length (fun i => ⟨[(0, .sl 0 0 S.length c), (1, .sl 1 0 (hyperN S) c'), (42, .sl 0 0 S.length c), (43, .i .i64 S.length), (44, .i .i64 i)], [.ro (encTask.row S), .ro (encInt.row (tabL S (hyperN S)))]⟩) (fun _ => True) trivial (Wk.pick [0, 1]) fun i hi _ => ?_
  simp only [l2_impl_TableValid, not_true_eq_false, not_false_eq_true, decide_true, decide_false, Bool.not_true, Bool.not_false, false_implies, true_implies, and_true, true_and, Bool.false_eq_true, Bool.true_eq_false, implies_true, Bool.not_not, Classical.not_not, go_sem, Int.reduceToNat, List.take_nil, Nat.zero_mul, Nat.reduceEqDiff, Nat.reduceAdd, Nat.reduceLT, Nat.reduceLeDiff, Nat.reduceMul, ↓reduceIte, reduceCtorEq]
  refine ⟨fun hli => ?_, fun hge => ?_⟩
  · have hx := hS.2 _ (List.getElem_mem hli)
    have hg : gT S i = S[i] := gT_nat hli
    obtain ⟨n, hn⟩ := (hyperN_hyper hS).2 _ (List.getElem_mem hli)
    have hx2 := hx
    unfold Task.ok at hx
    obtain ⟨P, hP⟩ := Int.eq_ofNat_of_zero_le (show 0 ≤ S[i].P by omega)
    obtain ⟨D, hD⟩ := Int.eq_ofNat_of_zero_le (show 0 ≤ S[i].D by omega)
    have hH1 := (hyperN_hyper hS).1
    have hn0 : 0 ≤ n := by
      apply Classical.byContradiction
      intro h0
      have : S[i].P * n ≤ S[i].P * 0 := Int.mul_le_mul_of_nonneg_left (by omega) (by omega)
      omega
    obtain ⟨n, rfl⟩ := Int.eq_ofNat_of_zero_le hn0
    have hHP : hyperN S = n * P := by
      have e : (hyperN S : Int) = ((n * P : Nat) : Int) := by rw [hn, hP, Int.mul_comm]; simp
      omega
    have hw := winT hli
    simp only [hw, lenT, show encTask.f S[i] = [.i .i64 S[i].C, .i .i64 S[i].D, .i .i64 S[i].P] from rfl, not_true_eq_false, not_false_eq_true, decide_true, decide_false, Bool.not_true, Bool.not_false, false_implies, true_implies, and_true, true_and, Bool.false_eq_true, Bool.true_eq_false, implies_true, Bool.not_not, Classical.not_not, go_sem, Int.reduceToNat, List.take_nil, Nat.zero_mul, Nat.reduceEqDiff, Nat.reduceAdd, Nat.reduceLT, Nat.reduceLeDiff, Nat.reduceMul, ↓reduceIte, reduceCtorEq]
    refine ⟨hli, by omega, ?_⟩
    refine loop_count n (fun q => ⟨[(0, .sl 0 0 S.length c), (1, .sl 1 0 (hyperN S) c'), (7, .i .i64 i), (8, .p 2 0), (9, .i .i64 (q * P : Nat)), (42, .sl 0 0 S.length c), (43, .i .i64 S.length), (44, .i .i64 i)], [.ro (encTask.row S), .ro (encInt.row (tabL S (hyperN S))), .rw ty_impl_Task [.i .i64 S[i].C, .i .i64 S[i].D, .i .i64 S[i].P] 3]⟩) (fun _ => True) trivial (by rw [Nat.zero_mul]; exact Wk.pick [0, 1, 2]) fun q hq _ => ?_
    have hrm : ((q * P : Nat) : Int) % (gT S i).P = 0 := by rw [hg, hP]; exact Int.emod_eq_zero_of_dvd ⟨q, by rw [Int.mul_comm]; simp⟩
    have hnx : (q + 1) * P = q * P + P := by rw [Nat.add_mul, Nat.one_mul]
    have hle : q < n → (q + 1) * P ≤ hyperN S := fun h => by rw [hHP]; exact Nat.mul_le_mul_right P h
    have hge' : ¬ q < n → hyperN S ≤ q * P := fun h => by rw [hHP]; exact Nat.mul_le_mul_right P (by omega)
    have hc1 := win_cnt hS hf hli hrm (m := D) (by rw [hg]; omega) (by rw [hg]; omega)
    have hc2 := win_cnt hS hf hli hrm (m := P) (by rw [hg]; omega) (by rw [hg]; omega)
    rw [hg] at hc1 hc2
    rw [show ((((q + 1) * P : Nat)) : Int) = ((q * P : Nat) : Int) + S[i].P by omega]
    generalize hr : q * P = r at *
    clear hrm hHP hn hn0
    have e1 : ((r : Int) + S[i].P).toNat = r + P := by omega
    simp only [l1_impl_TableValid, e1, Nat.add_sub_cancel_left, not_true_eq_false, not_false_eq_true, decide_true, decide_false, Bool.not_true, Bool.not_false, false_implies, true_implies, and_true, true_and, Bool.false_eq_true, Bool.true_eq_false, implies_true, Bool.not_not, Classical.not_not, go_sem, Int.reduceToNat, List.take_nil, Nat.zero_mul, Nat.reduceEqDiff, Nat.reduceAdd, Nat.reduceLT, Nat.reduceLeDiff, Nat.reduceMul, ↓reduceIte, reduceCtorEq]
    refine ⟨fun hlt => ?_, fun hge => ?_⟩
    · have hqn : q < n := by
        apply Classical.byContradiction
        intro h0
        have := hge' h0
        omega
      have hle := hle hqn
      rw [hnx] at hle
      refine ⟨by omega, by omega, by omega, fun _ => ?_, fun h0 => by omega⟩
      refine loop_count P (fun m => ⟨[(0, .sl 0 0 S.length c), (1, .sl 1 0 (hyperN S) c'), (7, .i .i64 i), (8, .p 2 0), (9, .i .i64 r), (10, .i .i64 (insK S r i D m)), (11, .i .i64 (cntK S r i m - insK S r i D m)), (42, .sl 0 0 S.length c), (43, .i .i64 S.length), (44, .i .i64 i), (63, .sl 1 r P (c' - r)), (64, .i .i64 P), (65, .i .i64 m)], [.ro (encTask.row S), .ro (encInt.row (tabL S (hyperN S))), .rw ty_impl_Task [.i .i64 S[i].C, .i .i64 S[i].D, .i .i64 S[i].P] 3]⟩) (fun _ => True) trivial ?_ fun m hm _ => ?_
      · rw [insK_zero, show cntK S r i 0 - 0 = 0 from rfl]
        exact Wk.pick [0, 1, 2]
      · have hb1 := cntK_bound S r i m
        have hb2 := insK_bound S r i D m
        simp only [l0_impl_TableValid, not_true_eq_false, not_false_eq_true, decide_true, decide_false, Bool.not_true, Bool.not_false, false_implies, true_implies, and_true, true_and, Bool.false_eq_true, Bool.true_eq_false, implies_true, Bool.not_not, Classical.not_not, go_sem, Int.reduceToNat, List.take_nil, Nat.zero_mul, Nat.reduceEqDiff, Nat.reduceAdd, Nat.reduceLT, Nat.reduceLeDiff, Nat.reduceMul, ↓reduceIte, reduceCtorEq]
        refine ⟨fun hlm => ?_, fun hge2 => ?_⟩
        · have hml : r + m < (tabL S (hyperN S)).length := by omega
          have e0 : cntK S r i (m + 1) = cntK S r i m + if tabAt S (r + m) = (i : Int) then 1 else 0 := rfl
          have ei := @insK_in S r i D m
          have eo := @insK_out S r i D m
          simp only [rdI hml, tabL_get hml, hD, lenI, hTl, not_true_eq_false, not_false_eq_true, decide_true, decide_false, Bool.not_true, Bool.not_false, false_implies, true_implies, and_true, true_and, Bool.false_eq_true, Bool.true_eq_false, implies_true, Bool.not_not, Classical.not_not, go_sem, Int.reduceToNat, List.take_nil, Nat.zero_mul, Nat.reduceEqDiff, Nat.reduceAdd, Nat.reduceLT, Nat.reduceLeDiff, Nat.reduceMul, ↓reduceIte, reduceCtorEq]
          rw [e0]
          by_cases ht : tabAt S (r + m) = (i : Int)
          · by_cases hmD : m < D
            · have ei := ei hmD
              rw [if_pos ht] at ei ⊢
              rw [ei, show cntK S r i m + 1 - (insK S r i D m + 1) = cntK S r i m - insK S r i D m by omega]
              repeat' first | omega | (exfalso; omega) | exact Wk.pick [0, 1, 2] | refine ⟨?_, ?_⟩ | intro _
            · have eo := eo hmD
              rw [if_pos ht]
              rw [eo, show cntK S r i m + 1 - insK S r i D m = cntK S r i m - insK S r i D m + 1 by omega]
              repeat' first | omega | (exfalso; omega) | exact Wk.pick [0, 1, 2] | refine ⟨?_, ?_⟩ | intro _
          · have e3 : insK S r i D (m + 1) = insK S r i D m := by
              by_cases hmD : m < D
              · have ei := ei hmD
                rw [if_neg ht] at ei
                omega
              · exact eo hmD
            rw [e3, if_neg ht, Int.add_zero]
            repeat' first | omega | (exfalso; omega) | exact Wk.pick [0, 1, 2] | refine ⟨?_, ?_⟩ | intro _
        · have em : m = P := by omega
          subst em
          have e2 : insK S r i D m = S[i].C := by
            unfold insK
            split
            · rw [show m = D by omega]; exact hc1
            · exact hc1
          rw [e2, hc2]
          simp only [Int.sub_self, not_true_eq_false, not_false_eq_true, decide_true, decide_false, Bool.not_true, Bool.not_false, false_implies, true_implies, and_true, true_and, Bool.false_eq_true, Bool.true_eq_false, implies_true, Bool.not_not, Classical.not_not, go_sem, Int.reduceToNat, List.take_nil, Nat.zero_mul, Nat.reduceEqDiff, Nat.reduceAdd, Nat.reduceLT, Nat.reduceLeDiff, Nat.reduceMul, ↓reduceIte, reduceCtorEq]
          repeat' first | omega | (exfalso; omega) | exact Wk.pick [0, 1, 2] | refine ⟨?_, ?_⟩ | intro _
    · exact ⟨by omega, hli, Wk.pick [0, 1]⟩
  · exact Fin.plain ⟨rfl, rfl⟩
theorem impl_TableValid_ {S : List Task} (h : tabOk S) {v u : AV} {σ : List AB} (hv : Rd encTask σ v S) (hu : Rd encInt σ u (tabL S (hyperN S))) {K : AV → List AB → Prop} (hk : K (.b true) σ) : CallWp Try.prog n_impl_TableValid [v, u] σ K :=
  call_rds _ (rds_cons hv.r (rds1 hu.r)) (fun c => [.sl 0 0 S.length (c 0), .sl 1 0 (tabL S (hyperN S)).length (c 1)]) (fun c => by rw [tabL_len]; exact CallWp.cap ent_impl_TableValid (k := 1) rfl fun hc => impl_TableValid0 S h (c 0) (c 1) hc) (fun ν c h => ⟨h.1, h.2.1, trivial⟩) (fun _ => rfl) rfl hk
end Go.Proofs.Ytfngcejaphhmmaa
