import Derived.Test.YtfngcejaphhmmaaGreatDoorS25
import Derived.Test.YtfngcejaphhmmaaGreatDoorS23
namespace Go.Proofs.YtfngcejaphhmmaaGreatDoor
open Go.Abs Go.Ds
set_option linter.unusedSimpArgs false
set_option linter.unusedVariables false
set_option maxRecDepth 20000
set_option maxHeartbeats 1000000
theorem feas_fov {S : List Task} (hS : setOk S) {r : Int} (h : FovP S r) : feas S ↔ r = -1 := by
  constructor
  · intro hf
    rcases h with ⟨h1, _⟩ | ⟨h1, h2, h3, _⟩
    · exact h1
    · have := hf.2 r h1 h2; omega
  · rintro rfl
    rcases h with ⟨_, h2⟩ | ⟨h1, _⟩
    · exact ⟨hS, h2⟩
    · omega
theorem spec_l2Edf0 (S : List Task) (hS : setOk S) (c : Nat) : CallWp Tryz.prog n_spec_l2Edf [.sl 0 0 S.length c] [.ro (encTask.row S)] (fun x σ => x = .b (decide (feas S)) ∧ σ = [.ro (encTask.row S)]) := by
  refine call_spec_l2Edf (by simp) ?_
  simp only [c_spec_l2Edf, not_true_eq_false, not_false_eq_true, decide_true, decide_false, Bool.not_true, Bool.not_false, false_implies, true_implies, and_true, true_and, Bool.false_eq_true, Bool.true_eq_false, implies_true, Bool.not_not, Classical.not_not, go_sem, Int.reduceToNat, List.take_nil, Nat.zero_mul, Nat.reduceEqDiff, Nat.reduceAdd, Nat.reduceLT, Nat.reduceLeDiff, Nat.reduceMul, ↓reduceIte, reduceCtorEq]
  refine spec_l1Hyper_ hS (Rd.own rfl) ?_
  simp only [not_true_eq_false, not_false_eq_true, decide_true, decide_false, Bool.not_true, Bool.not_false, false_implies, true_implies, and_true, true_and, Bool.false_eq_true, Bool.true_eq_false, implies_true, Bool.not_not, Classical.not_not, go_sem, Int.reduceToNat, List.take_nil, Nat.zero_mul, Nat.reduceEqDiff, Nat.reduceAdd, Nat.reduceLT, Nat.reduceLeDiff, Nat.reduceMul, ↓reduceIte, reduceCtorEq]
  refine (spec_l2Overload0 S hS c).mono ?_
  rintro x σ' _ ⟨τ, rfl, rfl, r, rfl, ⟨h, _⟩ | ⟨_, h⟩⟩
  · exact absurd hS h
  simp only [List.append_nil, not_true_eq_false, not_false_eq_true, decide_true, decide_false, Bool.not_true, Bool.not_false, false_implies, true_implies, and_true, true_and, Bool.false_eq_true, Bool.true_eq_false, implies_true, Bool.not_not, Classical.not_not, go_sem, Int.reduceToNat, List.take_nil, Nat.zero_mul, Nat.reduceEqDiff, Nat.reduceAdd, Nat.reduceLT, Nat.reduceLeDiff, Nat.reduceMul, ↓reduceIte, reduceCtorEq]
  exact Fin.plain ⟨by rw [decide_eq_decide.2 (feas_fov hS h)], rfl⟩
theorem spec_l2Edf_ {S : List Task} (hS : setOk S) {v : AV} {σ : List AB} (h : Rd encTask σ v S) {K : AV → List AB → Prop} (hk : K (.b (decide (feas S))) σ) : CallWp Tryz.prog n_spec_l2Edf [v] σ K :=
  call_rds _ (rds1 h.r) (fun c => [.sl 0 0 S.length (c 0)]) (fun c => spec_l2Edf0 S hS (c 0)) (fun ν c h => ⟨h.1, trivial⟩) (fun _ => rfl) rfl hk
def coresOk (S : List Task) (m : Int) : Prop := setOk S ∧ 1 ≤ m ∧ m ≤ 5
def FFQ (N : Nat) (S : List Task) (m : Int) (x : AV) (τ : List AB) : Prop := (∃ (A : List Int) (c r : Nat), x = .tup [.sl N 0 A.length c, .b true] ∧ τ = [.rw ty_int (encInt.row A) r] ∧ coresOk S m ∧ FFP S m.toNat true A) ∨
  (x = .tup [.sl N 0 0 0, .b false] ∧ τ = [.rw ty_int [] 0] ∧ (coresOk S m → FFP S m.toNat false []))
theorem FFQ.fr {N : Nat} {S : List Task} {m : Int} {x : AV} {τ : List AB} (h : FFQ N S m x τ) : τ.all plainRw = true ∧ freshA N x = true := by
  rcases h with ⟨A, c, r, rfl, rfl, _⟩ | ⟨rfl, rfl, _⟩
  · simp [plainRw, encInt.row_flat, freshA, fresh1A, freshC, flat]
  · simp [plainRw, freshA, fresh1A, freshC, flat]
end Go.Proofs.YtfngcejaphhmmaaGreatDoor
