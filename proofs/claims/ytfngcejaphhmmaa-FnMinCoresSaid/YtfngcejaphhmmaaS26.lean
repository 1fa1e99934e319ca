/- Contracts: first fit, of the reference. -/
import Derived.Test.YtfngcejaphhmmaaS25
import Derived.Test.YtfngcejaphhmmaaS23
namespace Go.Proofs.Ytfngcejaphhmmaa
open Go.Abs Go.Ds
set_option linter.unusedSimpArgs false
set_option linter.unusedVariables false
set_option maxRecDepth 20000
set_option maxHeartbeats 1000000

theorem feas_fov {S : List Task} (hS : setOk S) {r : Int} (h : FovP S r) : feas S ↔ r = -1 := by
  constructor
  · intro hf
    rcases h with ⟨h1, _⟩ | ⟨h1, h2, h3, _⟩
    · exact h1
    · have := hf.2 r h1 h2; omega
  · rintro rfl
    rcases h with ⟨_, h2⟩ | ⟨h1, _⟩
    · exact ⟨hS, h2⟩
    · omega

theorem spec_l2Edf0 (S : List Task) (hS : setOk S) (c : Nat) : CallWp Try.prog n_spec_l2Edf [.sl 0 0 S.length c] [.ro (encTask.row S)] (fun x σ => x = .b (decide (feas S)) ∧ σ = [.ro (encTask.row S)]) := by
  refine call_spec_l2Edf (by simp) ?_
  simp only [c_spec_l2Edf, not_true_eq_false, not_false_eq_true, decide_true, decide_false, Bool.not_true, Bool.not_false, false_implies, true_implies, and_true, true_and, Bool.false_eq_true, Bool.true_eq_false, implies_true, Bool.not_not, Classical.not_not, go_sem, Int.reduceToNat, List.take_nil, Nat.zero_mul, Nat.reduceEqDiff, Nat.reduceAdd, Nat.reduceLT, Nat.reduceLeDiff, Nat.reduceMul, ↓reduceIte, reduceCtorEq]
  refine spec_l1Hyper_ hS (Rd.own rfl) ?_
  simp only [not_true_eq_false, not_false_eq_true, decide_true, decide_false, Bool.not_true, Bool.not_false, false_implies, true_implies, and_true, true_and, Bool.false_eq_true, Bool.true_eq_false, implies_true, Bool.not_not, Classical.not_not, go_sem, Int.reduceToNat, List.take_nil, Nat.zero_mul, Nat.reduceEqDiff, Nat.reduceAdd, Nat.reduceLT, Nat.reduceLeDiff, Nat.reduceMul, ↓reduceIte, reduceCtorEq]
  refine (spec_l2Overload0 S hS c).mono ?_
  rintro x σ' _ ⟨τ, rfl, rfl, r, rfl, ⟨h, _⟩ | ⟨_, h⟩⟩
  · exact absurd hS h
  simp only [List.append_nil, not_true_eq_false, not_false_eq_true, decide_true, decide_false, Bool.not_true, Bool.not_false, false_implies, true_implies, and_true, true_and, Bool.false_eq_true, Bool.true_eq_false, implies_true, Bool.not_not, Classical.not_not, go_sem, Int.reduceToNat, List.take_nil, Nat.zero_mul, Nat.reduceEqDiff, Nat.reduceAdd, Nat.reduceLT, Nat.reduceLeDiff, Nat.reduceMul, ↓reduceIte, reduceCtorEq]
  exact Fin.plain ⟨by rw [decide_eq_decide.2 (feas_fov hS h)], rfl⟩
theorem spec_l2Edf_ {S : List Task} (hS : setOk S) {v : AV} {σ : List AB} (h : Rd encTask σ v S) {K : AV → List AB → Prop} (hk : K (.b (decide (feas S))) σ) : CallWp Try.prog n_spec_l2Edf [v] σ K :=
  call_rds _ (rds1 h.r) (fun c => [.sl 0 0 S.length (c 0)]) (fun c => spec_l2Edf0 S hS (c 0)) (fun ν c h => ⟨h.1, trivial⟩) (fun _ => rfl) rfl hk

/-- The first processor on which the next task fits. -/
def FirstC (S : List Task) (m : Nat) (A : List Int) (r : Int) : Prop := (r = -1 ∧ ∀ c : Int, 0 ≤ c → c < m → ¬ feas (onC S A c A.length ++ [gT S A.length])) ∨
  ((0 ≤ r ∧ r < m) ∧ feas (onC S A r A.length ++ [gT S A.length]) ∧ ∀ c : Int, 0 ≤ c → c < r → ¬ feas (onC S A c A.length ++ [gT S A.length]))

theorem spec_l7First0 (S : List Task) (hS : setOk S) (m : Nat) (hm : m ≤ 5) (A : List Int) (hA : A.length < S.length) (c c' : Nat) : CallWp Try.prog n_spec_l7First [.sl 0 0 S.length c, .i .i64 m, .sl 1 0 A.length c', .i .i64 A.length] [.ro (encTask.row S), .ro (encInt.row A)]
    (fun x σ' => ∃ τ, σ' = [.ro (encTask.row S), .ro (encInt.row A)] ++ τ ∧ τ = [] ∧ ∃ r, x = .i .i64 r ∧ FirstC S m A r) := by
  have h5 := hS.1
  refine call_spec_l7First (by simp) ?_
  simp only [c_spec_l7First, go_sem, Int.reduceToNat, List.take_nil, Nat.zero_mul, Nat.reduceEqDiff, Nat.reduceAdd, Nat.reduceLT, Nat.reduceLeDiff, Nat.reduceMul, ↓reduceIte, reduceCtorEq]
  refine loop_count m (fun k => ⟨[(0, .sl 0 0 S.length c), (1, .i .i64 m), (2, .sl 1 0 A.length c'), (3, .i .i64 A.length), (9, .i .i64 k)], [.ro (encTask.row S), .ro (encInt.row A)]⟩) (fun k => ∀ c : Int, 0 ≤ c → c < k → ¬ feas (onC S A c A.length ++ [gT S A.length])) (fun c h1 h2 => by omega) (Wk.pick [0, 1]) fun k hk hJ => ?_
  simp only [l0_spec_l7First, not_true_eq_false, not_false_eq_true, decide_true, decide_false, Bool.not_true, Bool.not_false, false_implies, true_implies, and_true, true_and, Bool.false_eq_true, Bool.true_eq_false, implies_true, Bool.not_not, Classical.not_not, go_sem, Int.reduceToNat, List.take_nil, Nat.zero_mul, Nat.reduceEqDiff, Nat.reduceAdd, Nat.reduceLT, Nat.reduceLeDiff, Nat.reduceMul, ↓reduceIte, reduceCtorEq]
  refine ⟨fun hlt => ?_, fun hge => ?_⟩
  · have gt : gT S A.length = S[A.length] := by simp [gT, List.getD_eq_getElem?_getD, hA]
    have hsub := onC_next A (k : Int) hA
    have hok := setOk_sub hsub hS
    refine seq_join (fun _ : Unit => ⟨[(0, .sl 0 0 S.length c), (1, .i .i64 m), (2, .sl 1 0 A.length c'), (3, .i .i64 A.length), (9, .i .i64 k), (25, .b (decide (feas (onC S A k A.length ++ [S[A.length]]))))], [.ro (encTask.row S), .ro (encInt.row A)]⟩) (fun _ => True) ?_ fun _ _ => ?_
    · simp only [winT hA, encTf, lenT, not_true_eq_false, not_false_eq_true, decide_true, decide_false, Bool.not_true, Bool.not_false, false_implies, true_implies, and_true, true_and, Bool.false_eq_true, Bool.true_eq_false, implies_true, Bool.not_not, Classical.not_not, go_sem, Int.reduceToNat, List.take_nil, Nat.zero_mul, Nat.reduceEqDiff, Nat.reduceAdd, Nat.reduceLT, Nat.reduceLeDiff, Nat.reduceMul, ↓reduceIte, reduceCtorEq]
      refine ⟨hA, by omega, spec_l7On_ (S := S) (A := A) k (by omega) (by omega) (Rd.own rfl) (Rd.own rfl) fun x τ hx => ?_, spec_l7On_ (S := S) (A := A) k (by omega) (by omega) (Rd.own rfl) (Rd.own rfl) fun x τ hx => ?_⟩
      all_goals
        have hlen := hsub.length_le
        rw [List.length_append, List.length_singleton] at hlen
        generalize onC S A k A.length = M at *
        obtain ⟨c1, rfl, hc1, rfl⟩ := hx
        simp only [winT hA, encTf, lenT, not_true_eq_false, not_false_eq_true, decide_true, decide_false, Bool.not_true, Bool.not_false, false_implies, true_implies, and_true, true_and, Bool.false_eq_true, Bool.true_eq_false, implies_true, Bool.not_not, Classical.not_not, go_sem, Int.reduceToNat, List.take_nil, Nat.zero_mul, Nat.reduceEqDiff, Nat.reduceAdd, Nat.reduceLT, Nat.reduceLeDiff, Nat.reduceMul, ↓reduceIte, reduceCtorEq]
        refine ⟨by omega, by omega, fun cap hcap => ⟨by omega, ?_⟩⟩
        have e3 : List.take (M.length * 3) (encTask.row M) ++ [AV.i IntKind.i64 S[A.length].C, AV.i IntKind.i64 S[A.length].D, AV.i IntKind.i64 S[A.length].P] = encTask.row (M ++ [S[A.length]]) := by
          simp only [takeT, appT]
        rw [e3]
        refine spec_l2Edf_ (S := M ++ [S[A.length]]) hok (Rd.owL rfl (by simp)) ?_
        simp only [winT hA, encTf, lenT, not_true_eq_false, not_false_eq_true, decide_true, decide_false, Bool.not_true, Bool.not_false, false_implies, true_implies, and_true, true_and, Bool.false_eq_true, Bool.true_eq_false, implies_true, Bool.not_not, Classical.not_not, go_sem, Int.reduceToNat, List.take_nil, Nat.zero_mul, Nat.reduceEqDiff, Nat.reduceAdd, Nat.reduceLT, Nat.reduceLeDiff, Nat.reduceMul, ↓reduceIte, reduceCtorEq]
        exact ⟨by omega, kJ_intro () trivial (Wk.pick [0, 1])⟩
    · simp only [not_true_eq_false, not_false_eq_true, decide_true, decide_false, Bool.not_true, Bool.not_false, false_implies, true_implies, and_true, true_and, Bool.false_eq_true, Bool.true_eq_false, implies_true, Bool.not_not, Classical.not_not, go_sem, Int.reduceToNat, List.take_nil, Nat.zero_mul, Nat.reduceEqDiff, Nat.reduceAdd, Nat.reduceLT, Nat.reduceLeDiff, Nat.reduceMul, ↓reduceIte, reduceCtorEq]
      refine ⟨fun hf => ?_, fun hf => ?_⟩
      · exact Fin.plain ⟨[], rfl, rfl, _, rfl, .inr ⟨by omega, by rw [gt]; exact hf, hJ⟩⟩
      · refine ⟨by omega, ⟨hlt, fun c h1 h2 => ?_⟩, Wk.pick [0, 1]⟩
        by_cases e : c = k
        · rw [e, gt]; exact hf
        · exact hJ c h1 (by omega)
  · have ek : k = m := by omega
    subst ek
    exact Fin.plain ⟨[], rfl, rfl, _, rfl, .inl ⟨rfl, hJ⟩⟩
theorem spec_l7First_ {S : List Task} (hS : setOk S) {m : Nat} (hm : m ≤ 5) {A : List Int} (hA : A.length < S.length) {x y : AV} {σ : List AB} (h : Rd encTask σ x S) (h' : Rd encInt σ y A) {K : AV → List AB → Prop} (hk : ∀ r, FirstC S m A r → K (.i .i64 r) σ) :
    CallWp Try.prog n_spec_l7First [x, .i .i64 m, y, .i .i64 A.length] σ K := by
  refine call_news _ (rds_cons h.r (rds1 h'.r)) (fun c => [.sl 0 0 S.length (c 0), .i .i64 m, .sl 1 0 A.length (c 1), .i .i64 A.length]) (fun x τ => τ = [] ∧ ∃ r, x = .i .i64 r ∧ FirstC S m A r) (fun c => spec_l7First0 S hS m hm A hA (c 0) (c 1)) ?_ (fun ν c h => ⟨h.1, .inl rfl, h.2.1, .inl rfl, trivial⟩) (fun _ => rfl) ?_
  · rintro x τ ⟨rfl, r, rfl, _⟩; exact ⟨rfl, rfl⟩
  · rintro x τ ⟨rfl, r, rfl, h⟩
    rw [List.append_nil]; exact hk r h

/-- What FirstFit leaves. -/
def coresOk (S : List Task) (m : Int) : Prop := setOk S ∧ 1 ≤ m ∧ m ≤ 5
def FFQ (N : Nat) (S : List Task) (m : Int) (x : AV) (τ : List AB) : Prop := (∃ (A : List Int) (c r : Nat), x = .tup [.sl N 0 A.length c, .b true] ∧ τ = [.rw ty_int (encInt.row A) r] ∧ coresOk S m ∧ FFP S m.toNat true A) ∨
  (x = .tup [.sl N 0 0 0, .b false] ∧ τ = [.rw ty_int [] 0] ∧ (coresOk S m → FFP S m.toNat false []))
theorem FFQ.fr {N : Nat} {S : List Task} {m : Int} {x : AV} {τ : List AB} (h : FFQ N S m x τ) : τ.all plainRw = true ∧ freshA N x = true := by
  rcases h with ⟨A, c, r, rfl, rfl, _⟩ | ⟨rfl, rfl, _⟩
  · simp [plainRw, encInt.row_flat, freshA, fresh1A, freshC, flat]
  · simp [plainRw, freshA, fresh1A, freshC, flat]

theorem spec_FirstFit0 (S : List Task) (hs : S.length ≤ 1048576) (m : Int) (c : Nat) : CallWp Try.prog n_spec_FirstFit [.sl 0 0 S.length c, .i .i64 m] [.ro (encTask.row S)] (fun x σ' => ∃ τ, σ' = [.ro (encTask.row S)] ++ τ ∧ FFQ 1 S m x τ) := by
  refine call_spec_FirstFit (by simp) ?_
  simp only [c_spec_FirstFit, go_sem, Int.reduceToNat, List.take_nil, Nat.zero_mul, Nat.reduceEqDiff, Nat.reduceAdd, Nat.reduceLT, Nat.reduceLeDiff, Nat.reduceMul, ↓reduceIte, reduceCtorEq]
  refine spec_SetValid_ (L := S) (by omega) (Rd.own rfl) ?_
  simp only [not_true_eq_false, not_false_eq_true, decide_true, decide_false, Bool.not_true, Bool.not_false, false_implies, true_implies, and_true, true_and, Bool.false_eq_true, Bool.true_eq_false, implies_true, Bool.not_not, Classical.not_not, go_sem, Int.reduceToNat, List.take_nil, Nat.zero_mul, Nat.reduceEqDiff, Nat.reduceAdd, Nat.reduceLT, Nat.reduceLeDiff, Nat.reduceMul, ↓reduceIte, reduceCtorEq]
  have no : ¬ coresOk S m → Fin 1 [.ro (encTask.row S), .rw ty_int [] 0] (.tup [.sl 1 0 0 0, .b false]) (fun x σ' => ∃ τ, σ' = .ro (encTask.row S) :: τ ∧ FFQ 1 S m x τ) := fun hno =>
    Fin.plain ⟨_, rfl, .inr ⟨rfl, rfl, fun h => absurd h hno⟩⟩
  refine ⟨fun hS => spec_l1In_ _ _ _ ?_, fun hS => no fun h => hS h.1⟩
  simp only [not_true_eq_false, not_false_eq_true, decide_true, decide_false, Bool.not_true, Bool.not_false, false_implies, true_implies, and_true, true_and, Bool.false_eq_true, Bool.true_eq_false, implies_true, Bool.not_not, Classical.not_not, go_sem, Int.reduceToNat, List.take_nil, Nat.zero_mul, Nat.reduceEqDiff, Nat.reduceAdd, Nat.reduceLT, Nat.reduceLeDiff, Nat.reduceMul, ↓reduceIte, reduceCtorEq]
  refine ⟨fun hm => no fun h => hm h.2, fun hm => ?_⟩
  obtain ⟨M, rfl⟩ := Int.eq_ofNat_of_zero_le (show 0 ≤ m by omega)
  have h5 := hS.1
  refine loop_intro (fun i : List Int × Nat => ⟨[(0, .sl 0 0 S.length c), (1, .i .i64 M), (6, .sl 1 0 i.1.length i.2), (7, .i .i64 i.1.length)], [.ro (encTask.row S), .rw ty_int (encInt.row i.1) i.2]⟩) (fun i => FFok S M i.1 ∧ i.1.length ≤ i.2) (fun i => S.length - i.1.length) ([], 0) ⟨⟨Nat.zero_le _, fun i hi => absurd hi (by simp)⟩, Nat.le_refl _⟩ (Wk.pick [0, 1]) ?_
  rintro ⟨A, cap⟩ ⟨hA, hcap⟩
  simp only at hA hcap
  have hl := hA.1
  simp only [l0_spec_FirstFit, not_true_eq_false, not_false_eq_true, decide_true, decide_false, Bool.not_true, Bool.not_false, false_implies, true_implies, and_true, true_and, Bool.false_eq_true, Bool.true_eq_false, implies_true, Bool.not_not, Classical.not_not, go_sem, Int.reduceToNat, List.take_nil, Nat.zero_mul, Nat.reduceEqDiff, Nat.reduceAdd, Nat.reduceLT, Nat.reduceLeDiff, Nat.reduceMul, ↓reduceIte, reduceCtorEq]
  refine ⟨fun hlt => spec_l7First_ (A := A) hS (by omega) (by omega) (Rd.own rfl) (Rd.own rfl) fun r hr => ?_, fun hge => ?_⟩
  · simp only [not_true_eq_false, not_false_eq_true, decide_true, decide_false, Bool.not_true, Bool.not_false, false_implies, true_implies, and_true, true_and, Bool.false_eq_true, Bool.true_eq_false, implies_true, Bool.not_not, Classical.not_not, go_sem, Int.reduceToNat, List.take_nil, Nat.zero_mul, Nat.reduceEqDiff, Nat.reduceAdd, Nat.reduceLT, Nat.reduceLeDiff, Nat.reduceMul, ↓reduceIte, reduceCtorEq]
    rcases hr with ⟨rfl, hr⟩ | ⟨hr1, hr2, hr3⟩
    · refine ⟨fun _ => ?_, fun h => absurd h (by decide)⟩
      exact Fin.pick [0, 2] (.tup [.sl 1 0 0 0, .b false]) [.ro (encTask.row S), .rw ty_int [] 0] ⟨_, rfl, .inr ⟨rfl, rfl, fun _ => .inr ⟨rfl, rfl, A, hA, by omega, hr⟩⟩⟩
    · refine ⟨fun h => absurd h (by omega), fun _ => ?_⟩
      simp only [lenI, not_true_eq_false, not_false_eq_true, decide_true, decide_false, Bool.not_true, Bool.not_false, false_implies, true_implies, and_true, true_and, Bool.false_eq_true, Bool.true_eq_false, implies_true, Bool.not_not, Classical.not_not, go_sem, Int.reduceToNat, List.take_nil, Nat.zero_mul, Nat.reduceEqDiff, Nat.reduceAdd, Nat.reduceLT, Nat.reduceLeDiff, Nat.reduceMul, ↓reduceIte, reduceCtorEq]
      have hn := hA.snoc (by omega) hr1 hr2 hr3
      have e2 : (A ++ [r]).length = A.length + 1 := by simp
      have e3 : List.take A.length (encInt.row A) ++ [AV.i IntKind.i64 r] = encInt.row (A ++ [r]) := by simp only [takeI, appI]
      refine ⟨by omega, fun cap' hcap' => ⟨by omega, (A ++ [r], cap'), ⟨⟨hn, by simp only [e2]; exact hcap'⟩, by simp only [e2]; omega⟩, ?_⟩⟩
      simp only [e2, e3]
      exact Wk.pick [0, 3]
  · have e : A.length = S.length := by omega
    exact Fin.plain ⟨_, rfl, .inl ⟨A, _, _, rfl, rfl, ⟨hS, by omega, by omega⟩, .inl ⟨rfl, hA, e⟩⟩⟩
theorem spec_FirstFit_ {S : List Task} (hs : S.length ≤ 1048576) {m : Int} {v : AV} {σ : List AB} (h : Rd encTask σ v S) {K : AV → List AB → Prop} (hk : ∀ x τ, FFQ σ.length S m x τ → K x (σ ++ τ)) : CallWp Try.prog n_spec_FirstFit [v, .i .i64 m] σ K := by
  refine call_news _ (rds1 h.r) (fun c => [.sl 0 0 S.length (c 0), .i .i64 m]) (FFQ 1 S m) (fun c => spec_FirstFit0 S hs m (c 0)) (fun _ _ h => h.fr) (fun ν c h => ⟨h.1, .inl rfl, trivial⟩) (fun _ => rfl) ?_
  rintro x τ (⟨A, c, r, rfl, rfl, h⟩ | ⟨rfl, rfl, h⟩)
  · exact hk _ _ (.inl ⟨A, c, r, rfl, rfl, h⟩)
  · exact hk _ _ (.inr ⟨rfl, rfl, h⟩)
end Go.Proofs.Ytfngcejaphhmmaa
