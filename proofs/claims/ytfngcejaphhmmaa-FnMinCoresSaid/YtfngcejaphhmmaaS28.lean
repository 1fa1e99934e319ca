/- Contracts: assignments that are valid, feasible, of the program. -/
import Derived.Test.YtfngcejaphhmmaaS27
namespace Go.Proofs.Ytfngcejaphhmmaa
open Go.Abs Go.Ds
set_option linter.unusedSimpArgs false
set_option linter.unusedVariables false
set_option maxRecDepth 20000
set_option maxHeartbeats 1000000

section
variable {f : Nat} {first caps : List (Nat × Nat)} {σ : List AB} {n cap : Nat} {L : List Int} {K : AV → List AB → Prop}
theorem slices_IndexFunc_int_ (hs : L.length ≤ 1099511627776) (hc : cellsOf σ n = some (encInt.row L)) (p : Int → Bool) (hp : ∀ t ∈ L, ∀ K : AV → List AB → Prop, K (.b (p t)) σ → CallWp Try.prog f (pAV first ++ [.i .i64 t] ++ pAV caps) σ K)
    (hk : K (.i .i64 (idxF p L)) σ) : CallWp Try.prog n_slices_IndexFunc_int [.sl n 0 L.length cap, .fn f first caps] σ K := by
  refine call_slices_IndexFunc_int (by simp) ?_
  simp only [c_slices_IndexFunc_int, go_sem, Int.reduceToNat, List.take_nil, Nat.zero_mul, Nat.reduceEqDiff, Nat.reduceAdd, Nat.reduceLT, Nat.reduceLeDiff, Nat.reduceMul, ↓reduceIte, reduceCtorEq]
  refine loop_count L.length (fun k => ⟨[(0, .sl n 0 L.length cap), (1, .fn f first caps), (7, .i .i64 L.length), (8, .i .i64 k)], σ⟩) (fun k => ∀ x ∈ L.take k, p x = false) (by simp) (Wk.keep (by simp [look_cons])) fun k hkl hJ => ?_
  simp only [l0_slices_IndexFunc_int, go_sem, Int.reduceToNat, List.take_nil, Nat.zero_mul, Nat.reduceEqDiff, Nat.reduceAdd, Nat.reduceLT, Nat.reduceLeDiff, Nat.reduceMul, ↓reduceIte, reduceCtorEq]
  refine ⟨fun h => ?_, fun h => ?_⟩
  · simp only [onC_of hc, rdI h, lenI, not_true_eq_false, not_false_eq_true, decide_true, decide_false, Bool.not_true, Bool.not_false, false_implies, true_implies, and_true, true_and, Bool.false_eq_true, Bool.true_eq_false, implies_true, Bool.not_not, Classical.not_not, go_sem, Int.reduceToNat, List.take_nil, Nat.zero_mul, Nat.reduceEqDiff, Nat.reduceAdd, Nat.reduceLT, Nat.reduceLeDiff, Nat.reduceMul, ↓reduceIte, reduceCtorEq]
    refine ⟨h, h, ?_⟩
    refine hp _ (List.getElem_mem _) _ ?_
    simp only [go_sem, Int.reduceToNat, List.take_nil, Nat.zero_mul, Nat.reduceEqDiff, Nat.reduceAdd, Nat.reduceLT, Nat.reduceLeDiff, Nat.reduceMul, ↓reduceIte, reduceCtorEq]
    refine bc_of (fun h3 => Fin.plain ?_) fun h3 => ⟨by omega, ⟨h, (all_take_succ h).2 ⟨hJ, h3⟩⟩, Wk.keep (by simp [look_cons])⟩
    rw [← idxF_found h hJ h3]; exact hk
  · have e : k = L.length := by omega
    subst e
    rw [List.take_length] at hJ
    refine Fin.plain ?_
    rw [← idxF_none hJ]; exact hk
theorem slices_ContainsFunc_int_ (hs : L.length ≤ 1099511627776) (hc : cellsOf σ n = some (encInt.row L)) (p : Int → Bool) (hp : ∀ t ∈ L, ∀ K : AV → List AB → Prop, K (.b (p t)) σ → CallWp Try.prog f (pAV first ++ [.i .i64 t] ++ pAV caps) σ K)
    (hk : K (.b (decide (∃ x ∈ L, p x = true))) σ) : CallWp Try.prog n_slices_ContainsFunc_int [.sl n 0 L.length cap, .fn f first caps] σ K := by
  refine call_slices_ContainsFunc_int (by simp) ?_
  simp only [c_slices_ContainsFunc_int, go_sem, Int.reduceToNat, List.take_nil, Nat.zero_mul, Nat.reduceEqDiff, Nat.reduceAdd, Nat.reduceLT, Nat.reduceLeDiff, Nat.reduceMul, ↓reduceIte, reduceCtorEq]
  refine slices_IndexFunc_int_ hs hc p hp ?_
  simp only [go_sem, Int.reduceToNat, List.take_nil, Nat.zero_mul, Nat.reduceEqDiff, Nat.reduceAdd, Nat.reduceLT, Nat.reduceLeDiff, Nat.reduceMul, ↓reduceIte, reduceCtorEq]
  refine Fin.plain ?_
  rw [decide_eq_decide.2 idxF_any]; exact hk
end

theorem impl_AssignmentValid_1_ {σ : List AB} {x : Nat} {m t : Int} (hx : cellsOf σ x = some [.i .i64 m]) (hm : 0 ≤ m ∧ m ≤ 5) {K : AV → List AB → Prop} (hk : K (.b (decide (¬ (0 ≤ t ∧ t ≤ m - 1)))) σ) : CallWp Try.prog n_impl_AssignmentValid_1 [.i .i64 t, .p x 0] σ K := by
  refine call_impl_AssignmentValid_1 (by simp) ?_
  simp only [c_impl_AssignmentValid_1, onC_of hx, not_true_eq_false, not_false_eq_true, decide_true, decide_false, Bool.not_true, Bool.not_false, false_implies, true_implies, and_true, true_and, Bool.false_eq_true, Bool.true_eq_false, implies_true, Bool.not_not, Classical.not_not, go_sem, Int.reduceToNat, List.take_nil, Nat.zero_mul, Nat.reduceEqDiff, Nat.reduceAdd, Nat.reduceLT, Nat.reduceLeDiff, Nat.reduceMul, ↓reduceIte, reduceCtorEq]
  refine ⟨by omega, impl_in_ _ _ _ ?_⟩
  simp only [go_sem, Int.reduceToNat, List.take_nil, Nat.zero_mul, Nat.reduceEqDiff, Nat.reduceAdd, Nat.reduceLT, Nat.reduceLeDiff, Nat.reduceMul, ↓reduceIte, reduceCtorEq]
  exact Fin.plain hk

/-- A valid assignment. -/
def asgV (S : List Task) (m : Int) (A : List Int) : Prop := coresOk S m ∧ A.length = S.length ∧ ∀ x ∈ A, 0 ≤ x ∧ x < m
noncomputable instance (S : List Task) (m : Int) (A : List Int) : Decidable (asgV S m A) := Classical.propDecidable _
def asgOk (S : List Task) (m : Int) (A : List Int) : Prop := coresOk S m ∧ feasA S m.toNat A
noncomputable instance (S : List Task) (m : Int) (A : List Int) : Decidable (asgOk S m A) := Classical.propDecidable _

theorem impl_AssignmentValid0 (S : List Task) (m : Int) (A : List Int) (hs : S.length ≤ 1048576) (ha : A.length ≤ 1048576) (c c' : Nat) : CallWp Try.prog n_impl_AssignmentValid [.sl 0 0 S.length c, .i .i64 m, .sl 1 0 A.length c'] [.ro (encTask.row S), .ro (encInt.row A)]
    (fun x σ => x = .b (decide (asgV S m A)) ∧ σ = [.ro (encTask.row S), .ro (encInt.row A)]) := by
  refine call_impl_AssignmentValid (by simp) ?_
  simp only [c_impl_AssignmentValid, not_true_eq_false, not_false_eq_true, decide_true, decide_false, Bool.not_true, Bool.not_false, false_implies, true_implies, and_true, true_and, Bool.false_eq_true, Bool.true_eq_false, implies_true, Bool.not_not, Classical.not_not, go_sem, Int.reduceToNat, List.take_nil, Nat.zero_mul, Nat.reduceEqDiff, Nat.reduceAdd, Nat.reduceLT, Nat.reduceLeDiff, Nat.reduceMul, ↓reduceIte, reduceCtorEq]
  refine impl_SetValid_ (L := S) (by omega) (Rd.own rfl) ?_
  simp only [not_true_eq_false, not_false_eq_true, decide_true, decide_false, Bool.not_true, Bool.not_false, false_implies, true_implies, and_true, true_and, Bool.false_eq_true, Bool.true_eq_false, implies_true, Bool.not_not, Classical.not_not, go_sem, Int.reduceToNat, List.take_nil, Nat.zero_mul, Nat.reduceEqDiff, Nat.reduceAdd, Nat.reduceLT, Nat.reduceLeDiff, Nat.reduceMul, ↓reduceIte, reduceCtorEq]
  have fin : ∀ b : Bool, (b = true ↔ asgV S m A) → Fin 2 [.ro (encTask.row S), .ro (encInt.row A), .rw ty_int [.i .i64 m] 1] (.b b) (fun x σ => x = .b (decide (asgV S m A)) ∧ σ = [.ro (encTask.row S), .ro (encInt.row A)]) := fun b hb => by
    refine Fin.pick [0, 1] (.b b) _ ⟨?_, rfl⟩
    congr 1
    cases b with
    | true => exact (decide_eq_true (hb.1 rfl)).symm
    | false => exact (decide_eq_false fun h => by have := hb.2 h; cases this).symm
  refine ⟨fun hS => impl_isCores_ _ ?_, fun hS => fin false ⟨(fun h => by cases h), fun h => absurd h.1.1 hS⟩⟩
  simp only [not_true_eq_false, not_false_eq_true, decide_true, decide_false, Bool.not_true, Bool.not_false, false_implies, true_implies, and_true, true_and, Bool.false_eq_true, Bool.true_eq_false, implies_true, Bool.not_not, Classical.not_not, go_sem, Int.reduceToNat, List.take_nil, Nat.zero_mul, Nat.reduceEqDiff, Nat.reduceAdd, Nat.reduceLT, Nat.reduceLeDiff, Nat.reduceMul, ↓reduceIte, reduceCtorEq]
  refine ⟨fun hm => ⟨fun hl => ?_, fun hl => fin false ⟨(fun h => by cases h), fun h => by have := h.2.1; omega⟩⟩, fun hm => fin false ⟨(fun h => by cases h), fun h => absurd h.1.2 hm⟩⟩
  refine slices_ContainsFunc_int_ (L := A) (by omega) rfl (fun t => decide (¬ (0 ≤ t ∧ t ≤ m - 1))) (fun t _ K hk => impl_AssignmentValid_1_ rfl (by omega) hk) ?_
  simp only [not_true_eq_false, not_false_eq_true, decide_true, decide_false, Bool.not_true, Bool.not_false, false_implies, true_implies, and_true, true_and, Bool.false_eq_true, Bool.true_eq_false, implies_true, Bool.not_not, Classical.not_not, go_sem, Int.reduceToNat, List.take_nil, Nat.zero_mul, Nat.reduceEqDiff, Nat.reduceAdd, Nat.reduceLT, Nat.reduceLeDiff, Nat.reduceMul, ↓reduceIte, reduceCtorEq]
  refine fin _ ?_
  rw [decide_eq_true_iff]
  constructor
  · intro h
    refine ⟨⟨hS, hm⟩, by omega, fun x hx => ?_⟩
    rcases Classical.em (0 ≤ x ∧ x < m) with h1 | h1
    · exact h1
    · exact absurd ⟨x, hx, by simp only [decide_eq_true_eq]; omega⟩ h
  · rintro ⟨_, _, h⟩ ⟨x, hx, h2⟩
    have := h x hx
    simp only [decide_eq_true_eq] at h2
    omega
theorem impl_AssignmentValid_ {S : List Task} {m : Int} {A : List Int} (hs : S.length ≤ 1048576) (ha : A.length ≤ 1048576) {v u : AV} {σ : List AB} (h : Rd encTask σ v S) (h' : Rd encInt σ u A) {K : AV → List AB → Prop} (hk : K (.b (decide (asgV S m A))) σ) : CallWp Try.prog n_impl_AssignmentValid [v, .i .i64 m, u] σ K :=
  call_rds _ (rds_cons h.r (rds1 h'.r)) (fun c => [.sl 0 0 S.length (c 0), .i .i64 m, .sl 1 0 A.length (c 1)]) (fun c => impl_AssignmentValid0 S m A hs ha (c 0) (c 1)) (fun ν c h => ⟨h.1, .inl rfl, h.2.1, trivial⟩) (fun _ => rfl) rfl hk

theorem OnP.rd {σ : List AB} {M : List Task} {x : AV} {τ : List AB} (h : OnP σ.length M x τ) (h0 : 0 < σ.length) : Rd encTask (σ ++ τ) x M := by
  rcases h with ⟨rfl, rfl, rfl⟩ | ⟨c, rfl, rfl⟩
  · exact .inr ⟨rfl, rfl, by simpa using h0⟩
  · exact Rd.own (by simp [cellsOf])

theorem impl_AssignmentFeasible0 (S : List Task) (m : Int) (A : List Int) (hs : S.length ≤ 1048576) (ha : A.length ≤ 1048576) (c c' : Nat) : CallWp Try.prog n_impl_AssignmentFeasible [.sl 0 0 S.length c, .i .i64 m, .sl 1 0 A.length c'] [.ro (encTask.row S), .ro (encInt.row A)]
    (fun x σ => x = .b (decide (asgOk S m A)) ∧ σ = [.ro (encTask.row S), .ro (encInt.row A)]) := by
  refine call_impl_AssignmentFeasible (by simp) ?_
  simp only [c_impl_AssignmentFeasible, not_true_eq_false, not_false_eq_true, decide_true, decide_false, Bool.not_true, Bool.not_false, false_implies, true_implies, and_true, true_and, Bool.false_eq_true, Bool.true_eq_false, implies_true, Bool.not_not, Classical.not_not, go_sem, Int.reduceToNat, List.take_nil, Nat.zero_mul, Nat.reduceEqDiff, Nat.reduceAdd, Nat.reduceLT, Nat.reduceLeDiff, Nat.reduceMul, ↓reduceIte, reduceCtorEq]
  refine impl_AssignmentValid_ (by omega) (by omega) (Rd.own rfl) (Rd.own rfl) ?_
  simp only [not_true_eq_false, not_false_eq_true, decide_true, decide_false, Bool.not_true, Bool.not_false, false_implies, true_implies, and_true, true_and, Bool.false_eq_true, Bool.true_eq_false, implies_true, Bool.not_not, Classical.not_not, go_sem, Int.reduceToNat, List.take_nil, Nat.zero_mul, Nat.reduceEqDiff, Nat.reduceAdd, Nat.reduceLT, Nat.reduceLeDiff, Nat.reduceMul, ↓reduceIte, reduceCtorEq]
  refine ⟨fun hno => Fin.plain ⟨?_, rfl⟩, fun hv => ?_⟩
  · congr 1
    refine (decide_eq_false fun h => hno ⟨h.1, h.2.1, fun x hx => ?_⟩).symm
    have := h.2.2.1 x hx
    have := h.1.2.1
    omega
  · obtain ⟨⟨hS, hm1, hm2⟩, hl, hA⟩ := hv
    obtain ⟨M, rfl⟩ := Int.eq_ofNat_of_zero_le (show 0 ≤ m by omega)
    have h5 := hS.1
    refine loop_count M (fun k => ⟨[(0, .sl 0 0 S.length c), (2, .sl 1 0 A.length c'), (13, .i .i64 M), (14, .i .i64 k)], [.ro (encTask.row S), .ro (encInt.row A)]⟩) (fun k => ∀ c : Int, 0 ≤ c → c < k → feas (onC S A c S.length)) (fun c h1 h2 => by omega) (Wk.pick [0, 1]) fun k hk hJ => ?_
    simp only [l0_impl_AssignmentFeasible, not_true_eq_false, not_false_eq_true, decide_true, decide_false, Bool.not_true, Bool.not_false, false_implies, true_implies, and_true, true_and, Bool.false_eq_true, Bool.true_eq_false, implies_true, Bool.not_not, Classical.not_not, go_sem, Int.reduceToNat, List.take_nil, Nat.zero_mul, Nat.reduceEqDiff, Nat.reduceAdd, Nat.reduceLT, Nat.reduceLeDiff, Nat.reduceMul, ↓reduceIte, reduceCtorEq]
    refine ⟨fun hlt => impl_onCore_ (S := S) (A := A) k (by omega) (by omega) (Rd.own rfl) (Rd.own rfl) fun x τ hx => ?_, fun hge => ?_⟩
    · have hr := hx.rd (by simp)
      rw [hl] at hr
      simp only [not_true_eq_false, not_false_eq_true, decide_true, decide_false, Bool.not_true, Bool.not_false, false_implies, true_implies, and_true, true_and, Bool.false_eq_true, Bool.true_eq_false, implies_true, Bool.not_not, Classical.not_not, go_sem, Int.reduceToNat, List.take_nil, Nat.zero_mul, Nat.reduceEqDiff, Nat.reduceAdd, Nat.reduceLT, Nat.reduceLeDiff, Nat.reduceMul, ↓reduceIte, reduceCtorEq]
      refine ⟨hr.data, impl_feasible_ (setOk_sub (onC_sub S A k S.length) hS) hr ?_⟩
      rcases hx with ⟨_, rfl, rfl⟩ | ⟨c2, rfl, rfl⟩
      all_goals
        simp only [not_true_eq_false, not_false_eq_true, decide_true, decide_false, Bool.not_true, Bool.not_false, false_implies, true_implies, and_true, true_and, Bool.false_eq_true, Bool.true_eq_false, implies_true, Bool.not_not, Classical.not_not, go_sem, Int.reduceToNat, List.take_nil, Nat.zero_mul, Nat.reduceEqDiff, Nat.reduceAdd, Nat.reduceLT, Nat.reduceLeDiff, Nat.reduceMul, ↓reduceIte, reduceCtorEq]
        refine ⟨fun hf => ?_, fun hf => ⟨by omega, ⟨hlt, fun c h1 h2 => ?_⟩, Wk.pick [0, 1]⟩⟩
        · refine Fin.pick [0, 1] (.b false) [.ro (encTask.row S), .ro (encInt.row A)] ⟨?_, rfl⟩
          congr 1
          exact (decide_eq_false fun h => hf (h.2.2.2 k (by omega) (by simp only [Int.toNat_natCast]; omega))).symm
        · by_cases e : c = k
          · rw [e]; exact hf
          · exact hJ c h1 (by omega)
    · have e : k = M := by omega
      subst e
      refine Fin.plain ⟨?_, rfl⟩
      congr 1
      exact (decide_eq_true ⟨⟨hS, hm1, hm2⟩, hl, by simpa using hA, fun c h1 h2 => hJ c h1 (by simpa using h2)⟩).symm
theorem impl_AssignmentFeasible_ {S : List Task} {m : Int} {A : List Int} (hs : S.length ≤ 1048576) (ha : A.length ≤ 1048576) {v u : AV} {σ : List AB} (h : Rd encTask σ v S) (h' : Rd encInt σ u A) {K : AV → List AB → Prop} (hk : K (.b (decide (asgOk S m A))) σ) : CallWp Try.prog n_impl_AssignmentFeasible [v, .i .i64 m, u] σ K :=
  call_rds _ (rds_cons h.r (rds1 h'.r)) (fun c => [.sl 0 0 S.length (c 0), .i .i64 m, .sl 1 0 A.length (c 1)]) (fun c => impl_AssignmentFeasible0 S m A hs ha (c 0) (c 1)) (fun ν c h => ⟨h.1, .inl rfl, h.2.1, trivial⟩) (fun _ => rfl) rfl hk
end Go.Proofs.Ytfngcejaphhmmaa
