import Derived.Test.YtfngcejaphhmmaaS54
import Derived.Test.YtfngcejaphhmmaaS23
import Derived.Test.YtfngcejaphhmmaaS26
namespace Go.Proofs.Ytfngcejaphhmmaa
open Go.Abs Go.Ds
set_option linter.unusedSimpArgs false
set_option linter.unusedVariables false
set_option maxRecDepth 20000
set_option maxHeartbeats 4000000
theorem spec_l13Due0 (S : List Task) (hS : setOk S) (i t : Nat) (hi : i < S.length) (ht : t ≤ 1000) (c : Nat) : CallWp Try.prog n_spec_l13Due [.sl 0 0 S.length c, .i .i64 i, .i .i64 t] [.ro (encTask.row S)] (fun x σ => x = .i .i64 (dueT S t i) ∧ σ = [.ro (encTask.row S)]) := by
  have hx := hS.2 _ (List.getElem_mem hi)
  unfold Task.ok at hx
  have hg : gT S i = S[i] := gT_nat hi
  have hd : (t : Int).tdiv S[i].P = (t : Int) / S[i].P := Int.tdiv_eq_ediv_of_nonneg (by omega)
  have hb : 0 ≤ (t : Int) / S[i].P * S[i].P := Int.mul_nonneg (Int.ediv_nonneg (by omega) (by omega)) (by omega)
  have hb2 := Int.ediv_mul_le (t : Int) (show S[i].P ≠ 0 by omega)
  have hq : 0 ≤ (t : Int) / S[i].P := Int.ediv_nonneg (by omega) (by omega)
  have hq2 : (t : Int) / S[i].P ≤ t := Int.ediv_le_self _ (by omega)
  refine call_spec_l13Due (by simp) ?_
  simp only [c_spec_l13Due, rdT1 hi, rdT2 hi, lenT, Int.toNat_natCast, hd, not_true_eq_false, not_false_eq_true, decide_true, decide_false, Bool.not_true, Bool.not_false, false_implies, true_implies, and_true, true_and, Bool.false_eq_true, Bool.true_eq_false, implies_true, Bool.not_not, Classical.not_not, go_sem, Int.reduceToNat, List.take_nil, Nat.zero_mul, Nat.reduceEqDiff, Nat.reduceAdd, Nat.reduceLT, Nat.reduceLeDiff, Nat.reduceMul, ↓reduceIte, reduceCtorEq]
  have e : dueT S t i = (t : Int) / S[i].P * S[i].P + S[i].D := by unfold dueT; rw [hg]
  rw [e]
  repeat' first | omega | exact Fin.plain ⟨rfl, rfl⟩ | refine ⟨?_, ?_⟩
theorem spec_l13Due_ {S : List Task} (hS : setOk S) {i t : Nat} (hi : i < S.length) (ht : t ≤ 1000) {v : AV} {σ : List AB} (h : Rd encTask σ v S) {K : AV → List AB → Prop} (hk : K (.i .i64 (dueT S t i)) σ) : CallWp Try.prog n_spec_l13Due [v, .i .i64 i, .i .i64 t] σ K :=
  call_rds _ (rds1 h.r) (fun c => [.sl 0 0 S.length (c 0), .i .i64 i, .i .i64 t]) (fun c => spec_l13Due0 S hS i t hi ht (c 0)) (fun ν c h => ⟨h.1, .inl rfl, .inl rfl, trivial⟩) (fun _ => rfl) rfl hk
def TableQ (N : Nat) (S : List Task) (x : AV) (τ : List AB) : Prop := (¬ tabOk S ∧ ∃ r, x = .tup [.sl N 0 0 0, .b false] ∧ τ = [.rw ty_int (encInt.row []) r]) ∨ (tabOk S ∧ ∃ cap, x = .tup [.sl N 0 (hyperN S) cap, .b true] ∧ τ = [.rw ty_int (encInt.row (tabL S (hyperN S))) cap])
theorem TableQ.fr {N : Nat} {S : List Task} {x : AV} {τ : List AB} (h : TableQ N S x τ) : τ.all plainRw = true ∧ freshA N x = true := by
  rcases h with ⟨_, r, rfl, rfl⟩ | ⟨_, c, rfl, rfl⟩
  · simp [plainRw, encInt.row_flat, freshA, fresh1A, freshC, Abs.flat]
  · simp [plainRw, encInt.row_flat, freshA, fresh1A, freshC, Abs.flat]
theorem spec_Table0 (S : List Task) (hs : S.length ≤ 1048576) (c : Nat) : CallWp Try.prog n_spec_Table [.sl 0 0 S.length c] [.ro (encTask.row S)] (fun x σ' => ∃ τ, σ' = [.ro (encTask.row S)] ++ τ ∧ TableQ 1 S x τ) := by
  refine call_spec_Table (by simp) ?_
  simp only [c_spec_Table, not_true_eq_false, not_false_eq_true, decide_true, decide_false, Bool.not_true, Bool.not_false, false_implies, true_implies, and_true, true_and, Bool.false_eq_true, Bool.true_eq_false, implies_true, Bool.not_not, Classical.not_not, go_sem, Int.reduceToNat, List.take_nil, Nat.zero_mul, Nat.reduceEqDiff, Nat.reduceAdd, Nat.reduceLT, Nat.reduceLeDiff, Nat.reduceMul, ↓reduceIte, reduceCtorEq]
  refine spec_SetValid_ (L := S) (by omega) (Rd.own rfl) ?_
  simp only [not_true_eq_false, not_false_eq_true, decide_true, decide_false, Bool.not_true, Bool.not_false, false_implies, true_implies, and_true, true_and, Bool.false_eq_true, Bool.true_eq_false, implies_true, Bool.not_not, Classical.not_not, go_sem, Int.reduceToNat, List.take_nil, Nat.zero_mul, Nat.reduceEqDiff, Nat.reduceAdd, Nat.reduceLT, Nat.reduceLeDiff, Nat.reduceMul, ↓reduceIte, reduceCtorEq]
  have no : ¬ tabOk S → Fin 1 [.ro (encTask.row S), .rw ty_int [] 0] (.tup [.sl 1 0 0 0, .b false]) (fun x σ' => ∃ τ, σ' = [.ro (encTask.row S)] ++ τ ∧ TableQ 1 S x τ) := fun h => Fin.plain ⟨_, rfl, .inl ⟨h, 0, rfl, rfl⟩⟩
  refine ⟨fun hS => spec_l1Hyper_ hS (Rd.own rfl) ?_, fun hS => no fun h => hS h.1.1⟩
  simp only [not_true_eq_false, not_false_eq_true, decide_true, decide_false, Bool.not_true, Bool.not_false, false_implies, true_implies, and_true, true_and, Bool.false_eq_true, Bool.true_eq_false, implies_true, Bool.not_not, Classical.not_not, go_sem, Int.reduceToNat, List.take_nil, Nat.zero_mul, Nat.reduceEqDiff, Nat.reduceAdd, Nat.reduceLT, Nat.reduceLeDiff, Nat.reduceMul, ↓reduceIte, reduceCtorEq]
  refine ⟨fun hH => spec_l2Edf_ hS (Rd.own rfl) ?_, fun hH => no fun h => by have := h.2; omega⟩
  simp only [not_true_eq_false, not_false_eq_true, decide_true, decide_false, Bool.not_true, Bool.not_false, false_implies, true_implies, and_true, true_and, Bool.false_eq_true, Bool.true_eq_false, implies_true, Bool.not_not, Classical.not_not, go_sem, Int.reduceToNat, List.take_nil, Nat.zero_mul, Nat.reduceEqDiff, Nat.reduceAdd, Nat.reduceLT, Nat.reduceLeDiff, Nat.reduceMul, ↓reduceIte, reduceCtorEq]
  refine ⟨fun hf => no fun h => hf h.1, fun hf => ?_⟩
  have h5 := hS.1
  have hH5 : hyperN S ≤ 720 := by omega
  refine ⟨by omega, ?_⟩
  refine loop_intro (fun i : Nat × Nat => ⟨[(0, .sl 0 0 S.length c), (4, .sl 1 0 i.1 i.2), (5, .sl 2 0 S.length S.length), (6, .i .i64 i.1)], [.ro (encTask.row S), .rw ty_int (encInt.row (tabL S i.1)) i.2, .rw ty_int (encInt.row (tabLf S i.1)) S.length]⟩) (fun i => i.1 ≤ hyperN S ∧ i.1 ≤ i.2) (fun i => hyperN S - i.1) (0, 0) ⟨Nat.zero_le _, Nat.le_refl _⟩ ?_ ?_
  · have e2 : rep S.length [AV.i .i64 0] = encInt.row (tabLf S 0) := encInt.rep 0 _
    rw [e2]
    exact Wk.pick [0, 1, 2]
  rintro ⟨k, cap⟩ ⟨hk, hcap⟩
  simp only at hk hcap
  simp only [l1_spec_Table, not_true_eq_false, not_false_eq_true, decide_true, decide_false, Bool.not_true, Bool.not_false, false_implies, true_implies, and_true, true_and, Bool.false_eq_true, Bool.true_eq_false, implies_true, Bool.not_not, Classical.not_not, go_sem, Int.reduceToNat, List.take_nil, Nat.zero_mul, Nat.reduceEqDiff, Nat.reduceAdd, Nat.reduceLT, Nat.reduceLeDiff, Nat.reduceMul, ↓reduceIte, reduceCtorEq]
  refine spec_l1Hyper_ hS (Rd.own rfl) ?_
  simp only [not_true_eq_false, not_false_eq_true, decide_true, decide_false, Bool.not_true, Bool.not_false, false_implies, true_implies, and_true, true_and, Bool.false_eq_true, Bool.true_eq_false, implies_true, Bool.not_not, Classical.not_not, go_sem, Int.reduceToNat, List.take_nil, Nat.zero_mul, Nat.reduceEqDiff, Nat.reduceAdd, Nat.reduceLT, Nat.reduceLeDiff, Nat.reduceMul, ↓reduceIte, reduceCtorEq]
  refine ⟨fun hlt => ?_, fun hge => ?_⟩
  · refine loop_count S.length (fun i => ⟨[(0, .sl 0 0 S.length c), (4, .sl 1 0 k cap), (5, .sl 2 0 S.length S.length), (6, .i .i64 k), (7, .i .i64 (bestF i (fun q => decide (0 < gI (tabLr S k) q)) (dueT S k))), (8, .i .i64 i)], [.ro (encTask.row S), .rw ty_int (encInt.row (tabL S k)) cap, .rw ty_int (encInt.row (mixT S.length i (tabLr S k) (tabLf S k))) S.length]⟩)
      (fun _ => True) trivial ?_ fun i hi _ => ?_
    · rw [mixT_zero (tabLf_len S k), show bestF 0 (fun q : Nat => decide (0 < gI (tabLr S k) q)) (dueT S k) = -1 from rfl]
      exact Wk.pick [0, 1, 2]
    · simp only [l0_spec_Table, not_true_eq_false, not_false_eq_true, decide_true, decide_false, Bool.not_true, Bool.not_false, false_implies, true_implies, and_true, true_and, Bool.false_eq_true, Bool.true_eq_false, implies_true, Bool.not_not, Classical.not_not, go_sem, Int.reduceToNat, List.take_nil, Nat.zero_mul, Nat.reduceEqDiff, Nat.reduceAdd, Nat.reduceLT, Nat.reduceLeDiff, Nat.reduceMul, ↓reduceIte, reduceCtorEq]
      refine ⟨fun hli => ?_, fun hge => ?_⟩
      · have hx := hS.2 _ (List.getElem_mem hli)
        unfold Task.ok at hx
        have hg : gT S i = S[i] := gT_nat hli
        have hmod : (k : Int).tmod S[i].P = (k : Int) % S[i].P := Int.tmod_eq_emod_of_nonneg (by omega)
        refine seq_join (fun _ : Unit => ⟨[(0, .sl 0 0 S.length c), (4, .sl 1 0 k cap), (5, .sl 2 0 S.length S.length), (6, .i .i64 k), (7, .i .i64 (bestF i (fun q => decide (0 < gI (tabLr S k) q)) (dueT S k))), (8, .i .i64 i)], [.ro (encTask.row S), .rw ty_int (encInt.row (tabL S k)) cap, .rw ty_int (encInt.row (mixT S.length (i + 1) (tabLr S k) (tabLf S k))) S.length]⟩) (fun _ => True) ?_ fun _ _ => ?_
        · have hl1 : i < (mixT S.length i (tabLr S k) (tabLf S k)).length := by rw [mixT_len]; exact hli
          simp only [rdT0 hli, rdT1 hli, rdT2 hli, lenT, Int.toNat_natCast, hmod, splI hl1, lenI, mixT_len, not_true_eq_false, not_false_eq_true, decide_true, decide_false, Bool.not_true, Bool.not_false, false_implies, true_implies, and_true, true_and, Bool.false_eq_true, Bool.true_eq_false, implies_true, Bool.not_not, Classical.not_not, go_sem, Int.reduceToNat, List.take_nil, Nat.zero_mul, Nat.reduceEqDiff, Nat.reduceAdd, Nat.reduceLT, Nat.reduceLeDiff, Nat.reduceMul, ↓reduceIte, reduceCtorEq]
          refine ⟨hli, by omega, by omega, fun h0 => ?_, fun h0 => ?_⟩
          · have e1 : gI (tabLr S k) i = S[i].C := by rw [lr_get hli, if_pos (by rw [hg]; exact h0), hg]
            rw [mixT_set e1]
            exact ⟨hli, by omega, by omega, by omega, kJ_intro () trivial (Wk.pick [0, 1, 2])⟩
          · have e1 : gI (tabLr S k) i = gI (tabLf S k) i := by rw [lr_get hli, if_neg (by rw [hg]; exact h0)]
            rw [mixT_same e1]
            exact kJ_intro () trivial (Wk.pick [0, 1, 2])
        · have hl1 : i < (mixT S.length (i + 1) (tabLr S k) (tabLf S k)).length := by rw [mixT_len]; exact hli
          have hL : (mixT S.length (i + 1) (tabLr S k) (tabLf S k))[i] = gI (tabLr S k) i := by rw [mixT_get hl1, if_pos (by omega)]
          have hbs := bestF_succ i (fun q => decide (0 < gI (tabLr S k) q)) (dueT S k)
          rcases bestF_spec (fun q => decide (0 < gI (tabLr S k) q)) (dueT S k) i with ⟨e, _⟩ | ⟨b, e, hb, _, _⟩
          · rw [e] at hbs ⊢
            by_cases hp : 0 < gI (tabLr S k) i
            · rw [if_pos ⟨decide_eq_true hp, .inl (by decide)⟩] at hbs
              rw [hbs]
              simp only [rdI hl1, hL, lenI, mixT_len, not_true_eq_false, not_false_eq_true, decide_true, decide_false, Bool.not_true, Bool.not_false, false_implies, true_implies, and_true, true_and, Bool.false_eq_true, Bool.true_eq_false, implies_true, Bool.not_not, Classical.not_not, go_sem, Int.reduceToNat, List.take_nil, Nat.zero_mul, Nat.reduceEqDiff, Nat.reduceAdd, Nat.reduceLT, Nat.reduceLeDiff, Nat.reduceMul, ↓reduceIte, reduceCtorEq]
              repeat' first | omega | (exfalso; omega) | exact Wk.pick [0, 1, 2] | refine ⟨?_, ?_⟩ | intro _
            · rw [if_neg (fun g => hp (of_decide_eq_true g.1))] at hbs
              rw [hbs]
              simp only [rdI hl1, hL, lenI, mixT_len, not_true_eq_false, not_false_eq_true, decide_true, decide_false, Bool.not_true, Bool.not_false, false_implies, true_implies, and_true, true_and, Bool.false_eq_true, Bool.true_eq_false, implies_true, Bool.not_not, Classical.not_not, go_sem, Int.reduceToNat, List.take_nil, Nat.zero_mul, Nat.reduceEqDiff, Nat.reduceAdd, Nat.reduceLT, Nat.reduceLeDiff, Nat.reduceMul, ↓reduceIte, reduceCtorEq]
              repeat' first | omega | (exfalso; omega) | exact Wk.pick [0, 1, 2] | refine ⟨?_, ?_⟩ | intro _
          · rw [e] at hbs ⊢
            rw [Int.toNat_natCast] at hbs
            have hbn : ¬ (b : Int) < 0 := by omega
            by_cases hp0 : 0 < gI (tabLr S k) i
            · simp only [rdI hl1, hL, hp0, hbn, lenI, mixT_len, not_true_eq_false, not_false_eq_true, decide_true, decide_false, Bool.not_true, Bool.not_false, false_implies, true_implies, and_true, true_and, Bool.false_eq_true, Bool.true_eq_false, implies_true, Bool.not_not, Classical.not_not, go_sem, Int.reduceToNat, List.take_nil, Nat.zero_mul, Nat.reduceEqDiff, Nat.reduceAdd, Nat.reduceLT, Nat.reduceLeDiff, Nat.reduceMul, ↓reduceIte, reduceCtorEq]
              refine ⟨hli, hli, ?_⟩
              refine spec_l13Due_ hS hli (by omega) (Rd.own rfl) ?_
              simp only [rdI hl1, hL, hp0, hbn, lenI, mixT_len, not_true_eq_false, not_false_eq_true, decide_true, decide_false, Bool.not_true, Bool.not_false, false_implies, true_implies, and_true, true_and, Bool.false_eq_true, Bool.true_eq_false, implies_true, Bool.not_not, Classical.not_not, go_sem, Int.reduceToNat, List.take_nil, Nat.zero_mul, Nat.reduceEqDiff, Nat.reduceAdd, Nat.reduceLT, Nat.reduceLeDiff, Nat.reduceMul, ↓reduceIte, reduceCtorEq]
              refine spec_l13Due_ hS (show b < S.length by omega) (by omega) (Rd.own rfl) ?_
              simp only [rdI hl1, hL, hp0, hbn, lenI, mixT_len, not_true_eq_false, not_false_eq_true, decide_true, decide_false, Bool.not_true, Bool.not_false, false_implies, true_implies, and_true, true_and, Bool.false_eq_true, Bool.true_eq_false, implies_true, Bool.not_not, Classical.not_not, go_sem, Int.reduceToNat, List.take_nil, Nat.zero_mul, Nat.reduceEqDiff, Nat.reduceAdd, Nat.reduceLT, Nat.reduceLeDiff, Nat.reduceMul, ↓reduceIte, reduceCtorEq]
              refine ⟨fun hp => ?_, fun hp => ?_⟩
              · rw [if_pos ⟨decide_eq_true hp0, .inr hp⟩] at hbs
                rw [hbs]
                exact ⟨by omega, hli, Wk.pick [0, 1, 2]⟩
              · rw [if_neg (fun g => hp (g.2.resolve_left (by omega)))] at hbs
                rw [hbs]
                exact ⟨by omega, hli, Wk.pick [0, 1, 2]⟩
            · rw [if_neg (fun g => hp0 (of_decide_eq_true g.1))] at hbs
              rw [hbs]
              simp only [rdI hl1, hL, hp0, lenI, mixT_len, not_true_eq_false, not_false_eq_true, decide_true, decide_false, Bool.not_true, Bool.not_false, false_implies, true_implies, and_true, true_and, Bool.false_eq_true, Bool.true_eq_false, implies_true, Bool.not_not, Classical.not_not, go_sem, Int.reduceToNat, List.take_nil, Nat.zero_mul, Nat.reduceEqDiff, Nat.reduceAdd, Nat.reduceLT, Nat.reduceLeDiff, Nat.reduceMul, ↓reduceIte, reduceCtorEq]
              repeat' first | omega | (exfalso; omega) | exact Wk.pick [0, 1, 2] | refine ⟨?_, ?_⟩ | intro _
      · have ei : i = S.length := by omega
        subst ei
        rw [mixT_all (by rw [tabLr, refill_len])]
        have hb : bestF S.length (fun q => decide (0 < gI (tabLr S k) q)) (dueT S k) = tabAt S k := rfl
        rw [hb]
        have eT : tabLf S (k + 1) = tabRun S (tabLr S k) (tabAt S k) := rfl
        have hl : (tabL S k).length = k := tabL_len S k
        have et : (encInt.row (tabL S k)).take k = encInt.row (tabL S k) := List.take_of_length_le (by rw [lenI, hl]; exact Nat.le_refl _)
        rcases tab_pick (S := S) k with ⟨e, _⟩ | ⟨b, hb2, e, hp, _⟩
        · have e2 : tabLf S (k + 1) = tabLr S k := by rw [eT, e]; rfl
          have e3 : encInt.row (tabL S k) ++ [AV.i IntKind.i64 (-1)] = encInt.row (tabL S (k + 1)) := by rw [appI, tabL_succ, e]
          rw [e]
          simp only [lenI, hl, et, e3, not_true_eq_false, not_false_eq_true, decide_true, decide_false, Bool.not_true, Bool.not_false, false_implies, true_implies, and_true, true_and, Bool.false_eq_true, Bool.true_eq_false, implies_true, Bool.not_not, Classical.not_not, go_sem, Int.reduceToNat, List.take_nil, Nat.zero_mul, Nat.reduceEqDiff, Nat.reduceAdd, Nat.reduceLT, Nat.reduceLeDiff, Nat.reduceMul, ↓reduceIte, reduceCtorEq]
          refine ⟨fun h => absurd h (by decide), fun _ => ⟨by omega, fun cap' hc' => ⟨by omega, (k + 1, cap'), ⟨⟨by omega, hc'⟩, by omega⟩, ?_⟩⟩⟩
          simp only [e2]
          exact Wk.pick [0, 4, 2]
        · have hbl : b < (tabLr S k).length := by rw [tabLr, refill_len]; exact hb2
          have gb : gI (tabLr S k) b = (tabLr S k)[b] := by simp [gI, List.getD_eq_getElem?_getD, hbl]
          have hbd := lr_bound hS hb2 k
          have hx := gT_okN hS hb2
          unfold Task.ok at hx
          have e2 : tabLf S (k + 1) = (tabLr S k).set b ((tabLr S k)[b] - 1) := by
            rw [eT, e]
            unfold tabRun
            rw [if_neg (by omega), Int.toNat_natCast, gb]
          have hll : (tabLr S k).length = S.length := by rw [tabLr, refill_len]
          have e3 : encInt.row (tabL S k) ++ [AV.i IntKind.i64 b] = encInt.row (tabL S (k + 1)) := by rw [appI, tabL_succ, e]
          rw [gb] at hbd
          rw [e]
          simp only [Int.toNat_natCast, rdI hbl, splI hbl, lenI, hll, hl, et, e3, not_true_eq_false, not_false_eq_true, decide_true, decide_false, Bool.not_true, Bool.not_false, false_implies, true_implies, and_true, true_and, Bool.false_eq_true, Bool.true_eq_false, implies_true, Bool.not_not, Classical.not_not, go_sem, Int.reduceToNat, List.take_nil, Nat.zero_mul, Nat.reduceEqDiff, Nat.reduceAdd, Nat.reduceLT, Nat.reduceLeDiff, Nat.reduceMul, ↓reduceIte, reduceCtorEq]
          repeat' first | omega | (refine ⟨?_, ?_⟩) | (intro cap' hc'; refine ⟨by omega, (k + 1, cap'), ⟨⟨by omega, hc'⟩, by omega⟩, ?_⟩; simp only [e2]; exact Wk.pick [0, 4, 2])
  · have ek : k = hyperN S := by omega
    subst ek
    exact Fin.pick [0, 1] (.tup [.sl 1 0 (hyperN S) cap, .b true]) _ ⟨_, rfl, .inr ⟨⟨hf, hH5⟩, cap, rfl, rfl⟩⟩
theorem spec_Table_ {S : List Task} (hs : S.length ≤ 1048576) {v : AV} {σ : List AB} (h : Rd encTask σ v S) {K : AV → List AB → Prop} (hk : ∀ x τ, TableQ σ.length S x τ → K x (σ ++ τ)) : CallWp Try.prog n_spec_Table [v] σ K := by
  refine call_news _ (rds1 h.r) (fun c => [.sl 0 0 S.length (c 0)]) (TableQ 1 S) (fun c => spec_Table0 S hs (c 0)) (fun _ _ h => h.fr) (fun ν c h => ⟨h.1, trivial⟩) (fun _ => rfl) ?_
  rintro x τ (⟨h1, r, rfl, rfl⟩ | ⟨h1, cap, rfl, rfl⟩)
  · exact hk _ _ (.inl ⟨h1, r, rfl, rfl⟩)
  · exact hk _ _ (.inr ⟨h1, cap, rfl, rfl⟩)
end Go.Proofs.Ytfngcejaphhmmaa
