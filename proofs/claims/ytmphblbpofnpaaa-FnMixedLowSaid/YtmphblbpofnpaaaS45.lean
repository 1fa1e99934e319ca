import Derived.Test.YtmphblbpofnpaaaSX
import Derived.Test.YtmphblbpofnpaaaMX
namespace Go.Proofs.Ytmphblbpofnpaaa
open Go.Abs Go.Ds
set_option linter.unusedSimpArgs false
set_option linter.unusedVariables false
set_option maxRecDepth 20000
set_option maxHeartbeats 2000000
def jKey (S : List MTask) (nu de : Int) (j : Job) (high : Bool) : Int := if high = true ∨ (gM S j.T).V = false then j.D * de else j.R * de + (gM S j.T).P * nu
theorem jKey_s {S : List MTask} {nu de : Int} {L : List Job} {high : Bool} {i : Nat} (h : i < L.length) : jKey S nu de L[i] high = sKey S nu de L high i := by
  have gL : L.getD i default = L[i] := by simp [List.getD_eq_getElem?_getD, h]
  unfold jKey sKey mixKey vitJ
  rw [gL]
  cases high <;> cases (gM S L[i].T).V <;> simp
theorem spec_l15Key0 (S : List MTask) (hS : mixOk S) (nu de : Int) (hf : (0 ≤ nu ∧ nu ≤ 27720) ∧ 0 ≤ de ∧ de ≤ 27720) (j : Job) (hj : (0 ≤ j.T ∧ j.T < S.length) ∧ (0 ≤ j.R ∧ j.R ≤ 119) ∧ 0 ≤ j.D ∧ j.D ≤ 1000) (high : Bool) (c : Nat) :
    CallWp Try.prog n_spec_l15Key [.sl 0 0 S.length c, .agg (encJob.f j), .agg [.i .i64 nu, .i .i64 de], .b high] [.ro (encMT.row S)] (fun x σ => x = .i .i64 (jKey S nu de j high) ∧ σ = [.ro (encMT.row S)]) := by
  obtain ⟨q, hq⟩ := Int.eq_ofNat_of_zero_le hj.1.1
  have hqS : q < S.length := by omega
  have hok := hS.2 _ (List.getElem_mem hqS)
  unfold MTask.ok at hok
  have b1 : 0 ≤ j.R * de ∧ j.R * de ≤ 119 * 27720 := ⟨Int.mul_nonneg (by omega) (by omega), Int.mul_le_mul (by omega) (by omega) (by omega) (by omega)⟩
  have b2 : 0 ≤ S[q].P * nu ∧ S[q].P * nu ≤ 12 * 27720 := ⟨Int.mul_nonneg (by omega) (by omega), Int.mul_le_mul (by omega) (by omega) (by omega) (by omega)⟩
  have b3 : 0 ≤ j.D * de ∧ j.D * de ≤ 1000 * 27720 := ⟨Int.mul_nonneg (by omega) (by omega), Int.mul_le_mul (by omega) (by omega) (by omega) (by omega)⟩
  have e : jKey S nu de j high = if high = true ∨ S[q].V = false then j.D * de else j.R * de + S[q].P * nu := by unfold jKey; rw [hq, gM_nat hqS]
  rw [e]
  refine call_spec_l15Key (by simp) ?_
  simp only [c_spec_l15Key, encJ, hq, Int.toNat_natCast, rdM3 hqS, rdM2 hqS, lenM, not_true_eq_false, not_false_eq_true, decide_true, decide_false, Bool.not_true, Bool.not_false, false_implies, true_implies, and_true, true_and, Bool.false_eq_true, Bool.true_eq_false, implies_true, Bool.not_not, Classical.not_not, go_sem, Int.reduceToNat, List.take_nil, Nat.zero_mul, Nat.reduceEqDiff, Nat.reduceAdd, Nat.reduceLT, Nat.reduceLeDiff, Nat.reduceMul, ↓reduceIte, reduceCtorEq]
  cases hv : S[q].V
  · rw [if_pos (.inr rfl)]
    simp only [not_true_eq_false, not_false_eq_true, decide_true, decide_false, Bool.not_true, Bool.not_false, false_implies, true_implies, and_true, true_and, Bool.false_eq_true, Bool.true_eq_false, implies_true, Bool.not_not, Classical.not_not, go_sem, Int.reduceToNat, List.take_nil, Nat.zero_mul, Nat.reduceEqDiff, Nat.reduceAdd, Nat.reduceLT, Nat.reduceLeDiff, Nat.reduceMul, ↓reduceIte, reduceCtorEq]
    exact ⟨by omega, by omega, by omega, Fin.pick [0] (.i .i64 (j.D * de)) _ ⟨rfl, rfl⟩⟩
  · cases high
    · rw [if_neg (by simp)]
      simp only [hq, Int.toNat_natCast, rdM3 hqS, rdM2 hqS, lenM, not_true_eq_false, not_false_eq_true, decide_true, decide_false, Bool.not_true, Bool.not_false, false_implies, true_implies, and_true, true_and, Bool.false_eq_true, Bool.true_eq_false, implies_true, Bool.not_not, Classical.not_not, go_sem, Int.reduceToNat, List.take_nil, Nat.zero_mul, Nat.reduceEqDiff, Nat.reduceAdd, Nat.reduceLT, Nat.reduceLeDiff, Nat.reduceMul, ↓reduceIte, reduceCtorEq]
      refine ⟨by omega, by omega, by omega, by omega, by omega, by omega, by omega, Fin.pick [0] (.i .i64 (j.R * de + S[q].P * nu)) _ ⟨rfl, rfl⟩⟩
    · rw [if_pos (.inl rfl)]
      simp only [not_true_eq_false, not_false_eq_true, decide_true, decide_false, Bool.not_true, Bool.not_false, false_implies, true_implies, and_true, true_and, Bool.false_eq_true, Bool.true_eq_false, implies_true, Bool.not_not, Classical.not_not, go_sem, Int.reduceToNat, List.take_nil, Nat.zero_mul, Nat.reduceEqDiff, Nat.reduceAdd, Nat.reduceLT, Nat.reduceLeDiff, Nat.reduceMul, ↓reduceIte, reduceCtorEq]
      exact ⟨by omega, by omega, by omega, Fin.pick [0] (.i .i64 (j.D * de)) _ ⟨rfl, rfl⟩⟩
theorem spec_l15Key_ {S : List MTask} (hS : mixOk S) {nu de : Int} (hf : (0 ≤ nu ∧ nu ≤ 27720) ∧ 0 ≤ de ∧ de ≤ 27720) {j : Job} (hj : (0 ≤ j.T ∧ j.T < S.length) ∧ (0 ≤ j.R ∧ j.R ≤ 119) ∧ 0 ≤ j.D ∧ j.D ≤ 1000) {high : Bool} {v : AV} {σ : List AB} (h : Rd encMT σ v S) {K : AV → List AB → Prop} (hk : K (.i .i64 (jKey S nu de j high)) σ) :
    CallWp Try.prog n_spec_l15Key [v, .agg (encJob.f j), .agg [.i .i64 nu, .i .i64 de], .b high] σ K :=
  call_rds _ (rds1 h.r) (fun c => [.sl 0 0 S.length (c 0), .agg (encJob.f j), .agg [.i .i64 nu, .i .i64 de], .b high]) (fun c => spec_l15Key0 S hS nu de hf j hj high (c 0)) (fun ν c h => ⟨h.1, .inl rfl, .inl rfl, .inl rfl, trivial⟩) (fun _ => rfl) rfl hk
theorem spec_l15Best0 (S : List MTask) (L : List Job) (Lf : List Int) (nu de : Int) (hL : mixLegal S L) (hf : (0 ≤ nu ∧ nu ≤ 27720) ∧ 0 ≤ de ∧ de ≤ 27720) (hl : Lf.length = L.length) (high : Bool) (now : Nat) (hn : now ≤ 1000) (c c' c3 : Nat) :
    CallWp Try.prog n_spec_l15Best [.sl 0 0 S.length c, .sl 1 0 L.length c', .sl 2 0 Lf.length c3, .agg [.i .i64 nu, .i .i64 de], .b high, .i .i64 now] [.ro (encMT.row S), .ro (encJob.row L), .ro (encInt.row Lf)]
      (fun x σ => x = .i .i64 (sBest S nu de L Lf high now) ∧ σ = [.ro (encMT.row S), .ro (encJob.row L), .ro (encInt.row Lf)]) := by
  have h60 := hL.2.1.1
  have hS := hL.1
  have hjs : ∀ i (h : i < L.length), (0 ≤ L[i].T ∧ L[i].T < S.length) ∧ (0 ≤ L[i].R ∧ L[i].R ≤ 119) ∧ 0 ≤ L[i].D ∧ L[i].D ≤ 1000 := fun i h => by
    have hm := hL.2.1.mem (List.getElem_mem h)
    have hD := hL.2.2.2 _ (List.getElem_mem h)
    have hok := gM_ok hS hm.1.1 hm.1.2
    unfold MTask.ok at hok
    unfold perM at hD
    omega
  refine call_spec_l15Best (by simp) ?_
  simp only [c_spec_l15Best, not_true_eq_false, not_false_eq_true, decide_true, decide_false, Bool.not_true, Bool.not_false, false_implies, true_implies, and_true, true_and, Bool.false_eq_true, Bool.true_eq_false, implies_true, Bool.not_not, Classical.not_not, go_sem, Int.reduceToNat, List.take_nil, Nat.zero_mul, Nat.reduceEqDiff, Nat.reduceAdd, Nat.reduceLT, Nat.reduceLeDiff, Nat.reduceMul, ↓reduceIte, reduceCtorEq]
  refine loop_count L.length (fun k => ⟨[(0, .sl 0 0 S.length c), (1, .sl 1 0 L.length c'), (2, .sl 2 0 Lf.length c3), (4, .b high), (5, .i .i64 now), (9, .p 3 0), (13, .i .i64 (bestF k (sOk S L Lf high now) (sKey S nu de L high))), (14, .i .i64 k)], [.ro (encMT.row S), .ro (encJob.row L), .ro (encInt.row Lf), .rw ty_impl_Fraction [.i .i64 nu, .i .i64 de] 2]⟩) (fun _ => True) trivial (Wk.keep (by simp [look_cons, bestF])) fun k hk _ => ?_
  simp only [l0_spec_l15Best, not_true_eq_false, not_false_eq_true, decide_true, decide_false, Bool.not_true, Bool.not_false, false_implies, true_implies, and_true, true_and, Bool.false_eq_true, Bool.true_eq_false, implies_true, Bool.not_not, Classical.not_not, go_sem, Int.reduceToNat, List.take_nil, Nat.zero_mul, Nat.reduceEqDiff, Nat.reduceAdd, Nat.reduceLT, Nat.reduceLeDiff, Nat.reduceMul, ↓reduceIte, reduceCtorEq]
  refine ⟨fun hlt => ?_, fun hge => ?_⟩
  · have hkf : k < Lf.length := by omega
    have hjk := hjs k hlt
    obtain ⟨q, hq⟩ := Int.eq_ofNat_of_zero_le hjk.1.1
    have hqS : q < S.length := by omega
    have gL : L.getD k default = L[k] := by simp [List.getD_eq_getElem?_getD, hlt]
    have gl : gI Lf k = Lf[k] := by simp [gI, List.getD_eq_getElem?_getD, hkf]
    have hv : vitJ S L k = S[q].V := by unfold vitJ; rw [gL, hq, gM_nat hqS]
    have hb := bestF_range (sOk S L Lf high now) (sKey S nu de L high) k
    have hsucc := bestF_succ k (sOk S L Lf high now) (sKey S nu de L high)
    have hok : sOk S L Lf high now k = (decide (L[k].R ≤ now) && decide (Lf[k] ≠ 0) && (!high || S[q].V)) := by unfold sOk; rw [gL, gl, hv]
    rw [hok] at hsucc
    generalize bestF k (sOk S L Lf high now) (sKey S nu de L high) = b at hb hsucc ⊢
    have same : ∀ T : List (Nat × AV), bestF (k + 1) (sOk S L Lf high now) (sKey S nu de L high) = b → (∀ p ∈ ([(0, .sl 0 0 S.length c), (1, .sl 1 0 L.length c'), (2, .sl 2 0 Lf.length c3), (4, .b high), (5, .i .i64 now), (9, .p 3 0), (13, .i .i64 b), (14, .i .i64 ((k + 1 : Nat) : Int))] : List (Nat × AV)), Abs.look T p.1 = p.2) →
        Wk 3 73 ⟨T, [.ro (encMT.row S), .ro (encJob.row L), .ro (encInt.row Lf), .rw ty_impl_Fraction [.i .i64 nu, .i .i64 de] 2]⟩ ⟨[(0, .sl 0 0 S.length c), (1, .sl 1 0 L.length c'), (2, .sl 2 0 Lf.length c3), (4, .b high), (5, .i .i64 now), (9, .p 3 0), (13, .i .i64 (bestF (k + 1) (sOk S L Lf high now) (sKey S nu de L high))), (14, .i .i64 ((k + 1 : Nat) : Int))], [.ro (encMT.row S), .ro (encJob.row L), .ro (encInt.row Lf), .rw ty_impl_Fraction [.i .i64 nu, .i .i64 de] 2]⟩ := by
      intro T h1 h2; rw [h1]; exact Wk.keep h2
    have new : ∀ T : List (Nat × AV), bestF (k + 1) (sOk S L Lf high now) (sKey S nu de L high) = k → (∀ p ∈ ([(0, .sl 0 0 S.length c), (1, .sl 1 0 L.length c'), (2, .sl 2 0 Lf.length c3), (4, .b high), (5, .i .i64 now), (9, .p 3 0), (13, .i .i64 (k : Int)), (14, .i .i64 ((k + 1 : Nat) : Int))] : List (Nat × AV)), Abs.look T p.1 = p.2) →
        Wk 3 73 ⟨T, [.ro (encMT.row S), .ro (encJob.row L), .ro (encInt.row Lf), .rw ty_impl_Fraction [.i .i64 nu, .i .i64 de] 2]⟩ ⟨[(0, .sl 0 0 S.length c), (1, .sl 1 0 L.length c'), (2, .sl 2 0 Lf.length c3), (4, .b high), (5, .i .i64 now), (9, .p 3 0), (13, .i .i64 (bestF (k + 1) (sOk S L Lf high now) (sKey S nu de L high))), (14, .i .i64 ((k + 1 : Nat) : Int))], [.ro (encMT.row S), .ro (encJob.row L), .ro (encInt.row Lf), .rw ty_impl_Fraction [.i .i64 nu, .i .i64 de] 2]⟩ := by
      intro T h1 h2; rw [h1]; exact Wk.keep h2
    simp only [rdJ1 hlt, rdJ0 hlt, rdI hkf, hq, Int.toNat_natCast, rdM3 hqS, lenJ, lenI, lenM, not_true_eq_false, not_false_eq_true, decide_true, decide_false, Bool.not_true, Bool.not_false, false_implies, true_implies, and_true, true_and, Bool.false_eq_true, Bool.true_eq_false, implies_true, Bool.not_not, Classical.not_not, go_sem, Int.reduceToNat, List.take_nil, Nat.zero_mul, Nat.reduceEqDiff, Nat.reduceAdd, Nat.reduceLT, Nat.reduceLeDiff, Nat.reduceMul, ↓reduceIte, reduceCtorEq]
    refine ⟨by omega, by omega, fun h1 => ⟨by omega, by omega, fun h2 => ?_, fun h2 => ?_⟩, fun h1 => ?_⟩
    rotate_left
    · exact ⟨by omega, hlt, same _ (by rw [hsucc, if_neg fun hh => by have := hh.1; simp at this; omega]) (by simp [look_cons])⟩
    · exact ⟨by omega, hlt, same _ (by rw [hsucc, if_neg fun hh => by have := hh.1; simp at this; omega]) (by simp [look_cons])⟩
    cases high
    · have hgo : (decide (L[k].R ≤ now) && decide (Lf[k] ≠ 0) && (!false || S[q].V)) = true := by simp; omega
      simp only [not_true_eq_false, not_false_eq_true, decide_true, decide_false, Bool.not_true, Bool.not_false, false_implies, true_implies, and_true, true_and, Bool.false_eq_true, Bool.true_eq_false, implies_true, Bool.not_not, Classical.not_not, go_sem, Int.reduceToNat, List.take_nil, Nat.zero_mul, Nat.reduceEqDiff, Nat.reduceAdd, Nat.reduceLT, Nat.reduceLeDiff, Nat.reduceMul, ↓reduceIte, reduceCtorEq]
      refine ⟨fun h3 => ?_, fun h3 => ?_⟩
      · obtain ⟨nb, rfl⟩ := Int.eq_ofNat_of_zero_le (show 0 ≤ b by omega)
        have hnb : nb < L.length := by omega
        refine ⟨by omega, by omega, ?_⟩
        rw [winJ hlt]
        refine onCall.by (spec_l15Key_ hS hf (hjs k hlt) (Rd.own rfl) ⟨rfl, rfl⟩) ?_
        simp only [Int.toNat_natCast, winJ hnb, lenJ, not_true_eq_false, not_false_eq_true, decide_true, decide_false, Bool.not_true, Bool.not_false, false_implies, true_implies, and_true, true_and, Bool.false_eq_true, Bool.true_eq_false, implies_true, Bool.not_not, Classical.not_not, go_sem, Int.reduceToNat, List.take_nil, Nat.zero_mul, Nat.reduceEqDiff, Nat.reduceAdd, Nat.reduceLT, Nat.reduceLeDiff, Nat.reduceMul, ↓reduceIte, reduceCtorEq]
        repeat refine ⟨by omega, ?_⟩
        refine onCall.by (spec_l15Key_ hS hf (hjs nb hnb) (Rd.own rfl) ⟨rfl, rfl⟩) ?_
        simp only [jKey_s hlt, jKey_s hnb, not_true_eq_false, not_false_eq_true, decide_true, decide_false, Bool.not_true, Bool.not_false, false_implies, true_implies, and_true, true_and, Bool.false_eq_true, Bool.true_eq_false, implies_true, Bool.not_not, Classical.not_not, go_sem, Int.reduceToNat, List.take_nil, Nat.zero_mul, Nat.reduceEqDiff, Nat.reduceAdd, Nat.reduceLT, Nat.reduceLeDiff, Nat.reduceMul, ↓reduceIte, reduceCtorEq]
        rw [Int.toNat_natCast] at hsucc
        refine ⟨fun h4 => ⟨by omega, hlt, new _ (by rw [hsucc, if_pos ⟨hgo, .inr h4⟩]) (by simp [look_cons])⟩, fun h4 => ⟨by omega, hlt, same _ (by rw [hsucc, if_neg fun hh => hh.2.elim (fun h5 => h3 h5) h4]) (by simp [look_cons])⟩⟩
      · exact ⟨by omega, hlt, new _ (by rw [hsucc, if_pos ⟨hgo, .inl h3⟩]) (by simp [look_cons])⟩
    · cases hvq : S[q].V
      · rw [hvq] at hsucc
        simp only [not_true_eq_false, not_false_eq_true, decide_true, decide_false, Bool.not_true, Bool.not_false, false_implies, true_implies, and_true, true_and, Bool.false_eq_true, Bool.true_eq_false, implies_true, Bool.not_not, Classical.not_not, go_sem, Int.reduceToNat, List.take_nil, Nat.zero_mul, Nat.reduceEqDiff, Nat.reduceAdd, Nat.reduceLT, Nat.reduceLeDiff, Nat.reduceMul, ↓reduceIte, reduceCtorEq]
        exact ⟨by omega, by omega, by omega, by omega, by omega, hlt, same _ (by rw [hsucc, if_neg fun hh => by have := hh.1; simp at this]) (by simp [look_cons])⟩
      · rw [hvq] at hsucc
        have hgo : (decide (L[k].R ≤ now) && decide (Lf[k] ≠ 0) && (!true || true)) = true := by simp; omega
        simp only [not_true_eq_false, not_false_eq_true, decide_true, decide_false, Bool.not_true, Bool.not_false, false_implies, true_implies, and_true, true_and, Bool.false_eq_true, Bool.true_eq_false, implies_true, Bool.not_not, Classical.not_not, go_sem, Int.reduceToNat, List.take_nil, Nat.zero_mul, Nat.reduceEqDiff, Nat.reduceAdd, Nat.reduceLT, Nat.reduceLeDiff, Nat.reduceMul, ↓reduceIte, reduceCtorEq]
        refine ⟨by omega, by omega, by omega, by omega, ?_⟩
        refine ⟨fun h3 => ?_, fun h3 => ?_⟩
        · obtain ⟨nb, rfl⟩ := Int.eq_ofNat_of_zero_le (show 0 ≤ b by omega)
          have hnb : nb < L.length := by omega
          refine ⟨by omega, by omega, ?_⟩
          rw [winJ hlt]
          refine onCall.by (spec_l15Key_ hS hf (hjs k hlt) (Rd.own rfl) ⟨rfl, rfl⟩) ?_
          simp only [Int.toNat_natCast, winJ hnb, lenJ, not_true_eq_false, not_false_eq_true, decide_true, decide_false, Bool.not_true, Bool.not_false, false_implies, true_implies, and_true, true_and, Bool.false_eq_true, Bool.true_eq_false, implies_true, Bool.not_not, Classical.not_not, go_sem, Int.reduceToNat, List.take_nil, Nat.zero_mul, Nat.reduceEqDiff, Nat.reduceAdd, Nat.reduceLT, Nat.reduceLeDiff, Nat.reduceMul, ↓reduceIte, reduceCtorEq]
          repeat refine ⟨by omega, ?_⟩
          refine onCall.by (spec_l15Key_ hS hf (hjs nb hnb) (Rd.own rfl) ⟨rfl, rfl⟩) ?_
          simp only [jKey_s hlt, jKey_s hnb, not_true_eq_false, not_false_eq_true, decide_true, decide_false, Bool.not_true, Bool.not_false, false_implies, true_implies, and_true, true_and, Bool.false_eq_true, Bool.true_eq_false, implies_true, Bool.not_not, Classical.not_not, go_sem, Int.reduceToNat, List.take_nil, Nat.zero_mul, Nat.reduceEqDiff, Nat.reduceAdd, Nat.reduceLT, Nat.reduceLeDiff, Nat.reduceMul, ↓reduceIte, reduceCtorEq]
          rw [Int.toNat_natCast] at hsucc
          refine ⟨fun h4 => ⟨by omega, hlt, new _ (by rw [hsucc, if_pos ⟨hgo, .inr h4⟩]) (by simp [look_cons])⟩, fun h4 => ⟨by omega, hlt, same _ (by rw [hsucc, if_neg fun hh => hh.2.elim (fun h5 => h3 h5) h4]) (by simp [look_cons])⟩⟩
        · exact ⟨by omega, hlt, new _ (by rw [hsucc, if_pos ⟨hgo, .inl h3⟩]) (by simp [look_cons])⟩
  · have e : k = L.length := by omega
    subst e
    exact Fin.pick [0, 1, 2] (.i .i64 (bestF L.length (sOk S L Lf high now) (sKey S nu de L high))) _ ⟨rfl, rfl⟩
theorem spec_l15Best_ {S : List MTask} {L : List Job} {Lf : List Int} {nu de : Int} (hL : mixLegal S L) (hf : (0 ≤ nu ∧ nu ≤ 27720) ∧ 0 ≤ de ∧ de ≤ 27720) (hl : Lf.length = L.length) {high : Bool} {now : Nat} (hn : now ≤ 1000) {u v w : AV} {σ : List AB} (a1 : Rd encMT σ u S) (a2 : Rd encJob σ v L) (a3 : Rd encInt σ w Lf) {K : AV → List AB → Prop} (hk : K (.i .i64 (sBest S nu de L Lf high now)) σ) :
    CallWp Try.prog n_spec_l15Best [u, v, w, .agg [.i .i64 nu, .i .i64 de], .b high, .i .i64 now] σ K :=
  call_rds _ (rds_cons a1.r (rds_cons a2.r (rds1 a3.r))) (fun c => [.sl 0 0 S.length (c 0), .sl 1 0 L.length (c 1), .sl 2 0 Lf.length (c 2), .agg [.i .i64 nu, .i .i64 de], .b high, .i .i64 now]) (fun c => spec_l15Best0 S L Lf nu de hL hf hl high now hn (c 0) (c 1) (c 2)) (fun ν c h => ⟨h.1, h.2.1, h.2.2.1, .inl rfl, .inl rfl, .inl rfl, trivial⟩) (fun _ => rfl) rfl hk
end Go.Proofs.Ytmphblbpofnpaaa
