/- Contracts: first fit, of the program. -/
import Derived.Test.YtfngcejaphhmmaaS26
import Derived.Test.YtfngcejaphhmmaaS1
namespace Go.Proofs.Ytfngcejaphhmmaa
open Go.Abs Go.Ds
set_option linter.unusedSimpArgs false
set_option linter.unusedVariables false
set_option maxRecDepth 20000
set_option maxHeartbeats 1000000

theorem impl_isCores_ (m : Int) {σ : List AB} {K : AV → List AB → Prop} (hk : K (.b (decide (1 ≤ m ∧ m ≤ 5))) σ) : CallWp Try.prog n_impl_isCores [.i .i64 m] σ K := by
  refine call_impl_isCores (by simp) ?_
  simp only [c_impl_isCores, not_true_eq_false, not_false_eq_true, decide_true, decide_false, Bool.not_true, Bool.not_false, false_implies, true_implies, and_true, true_and, Bool.false_eq_true, Bool.true_eq_false, implies_true, Bool.not_not, Classical.not_not, go_sem, Int.reduceToNat, List.take_nil, Nat.zero_mul, Nat.reduceEqDiff, Nat.reduceAdd, Nat.reduceLT, Nat.reduceLeDiff, Nat.reduceMul, ↓reduceIte, reduceCtorEq]
  refine impl_in_ _ _ _ ?_
  simp only [not_true_eq_false, not_false_eq_true, decide_true, decide_false, Bool.not_true, Bool.not_false, false_implies, true_implies, and_true, true_and, Bool.false_eq_true, Bool.true_eq_false, implies_true, Bool.not_not, Classical.not_not, go_sem, Int.reduceToNat, List.take_nil, Nat.zero_mul, Nat.reduceEqDiff, Nat.reduceAdd, Nat.reduceLT, Nat.reduceLeDiff, Nat.reduceMul, ↓reduceIte, reduceCtorEq]
  exact Fin.plain hk

/-- What FirstFit leaves. -/
def FFI (N : Nat) (S : List Task) (m : Int) (x : AV) (τ : List AB) : Prop := (∃ (A : List Int) (c r : Nat), x = .tup [.sl N 0 A.length c, .b true] ∧ τ = [.rw ty_int (encInt.row A) r] ∧ coresOk S m ∧ FFP S m.toNat true A) ∨
  (x = .tup [.sn, .b false] ∧ τ = [] ∧ (coresOk S m → FFP S m.toNat false []))
theorem FFI.fr {N : Nat} {S : List Task} {m : Int} {x : AV} {τ : List AB} (h : FFI N S m x τ) : τ.all plainRw = true ∧ freshA N x = true := by
  rcases h with ⟨A, c, r, rfl, rfl, _⟩ | ⟨rfl, rfl, _⟩
  · simp [plainRw, encInt.row_flat, freshA, fresh1A, freshC, flat]
  · simp [plainRw, freshA, fresh1A, freshC, flat]

theorem impl_FirstFit0 (S : List Task) (hs : S.length ≤ 1048576) (m : Int) (c : Nat) : CallWp Try.prog n_impl_FirstFit [.sl 0 0 S.length c, .i .i64 m] [.ro (encTask.row S)] (fun x σ' => ∃ τ, σ' = [.ro (encTask.row S)] ++ τ ∧ FFI 1 S m x τ) := by
  refine call_impl_FirstFit (by simp) ?_
  simp only [c_impl_FirstFit, go_sem, Int.reduceToNat, List.take_nil, Nat.zero_mul, Nat.reduceEqDiff, Nat.reduceAdd, Nat.reduceLT, Nat.reduceLeDiff, Nat.reduceMul, ↓reduceIte, reduceCtorEq]
  refine impl_SetValid_ (L := S) (by omega) (Rd.own rfl) ?_
  simp only [not_true_eq_false, not_false_eq_true, decide_true, decide_false, Bool.not_true, Bool.not_false, false_implies, true_implies, and_true, true_and, Bool.false_eq_true, Bool.true_eq_false, implies_true, Bool.not_not, Classical.not_not, go_sem, Int.reduceToNat, List.take_nil, Nat.zero_mul, Nat.reduceEqDiff, Nat.reduceAdd, Nat.reduceLT, Nat.reduceLeDiff, Nat.reduceMul, ↓reduceIte, reduceCtorEq]
  have no : ¬ coresOk S m → Fin 1 [.ro (encTask.row S)] (.tup [.sn, .b false]) (fun x σ' => ∃ τ, σ' = .ro (encTask.row S) :: τ ∧ FFI 1 S m x τ) := fun hno =>
    Fin.plain ⟨_, rfl, .inr ⟨rfl, rfl, fun h => absurd h hno⟩⟩
  refine ⟨fun hS => impl_isCores_ _ ?_, fun hS => no fun h => hS h.1⟩
  simp only [not_true_eq_false, not_false_eq_true, decide_true, decide_false, Bool.not_true, Bool.not_false, false_implies, true_implies, and_true, true_and, Bool.false_eq_true, Bool.true_eq_false, implies_true, Bool.not_not, Classical.not_not, go_sem, Int.reduceToNat, List.take_nil, Nat.zero_mul, Nat.reduceEqDiff, Nat.reduceAdd, Nat.reduceLT, Nat.reduceLeDiff, Nat.reduceMul, ↓reduceIte, reduceCtorEq]
  refine ⟨fun hm => no fun h => hm h.2, fun hm => ?_⟩
  obtain ⟨M, rfl⟩ := Int.eq_ofNat_of_zero_le (show 0 ≤ m by omega)
  have h5 := hS.1
  refine impl_none_ S.length (by omega) fun c1 => ?_
  simp only [not_true_eq_false, not_false_eq_true, decide_true, decide_false, Bool.not_true, Bool.not_false, false_implies, true_implies, and_true, true_and, Bool.false_eq_true, Bool.true_eq_false, implies_true, Bool.not_not, Classical.not_not, go_sem, Int.reduceToNat, List.take_nil, Nat.zero_mul, Nat.reduceEqDiff, Nat.reduceAdd, Nat.reduceLT, Nat.reduceLeDiff, Nat.reduceMul, ↓reduceIte, reduceCtorEq]
  have e0 : List.replicate S.length (-1 : Int) = pad S [] := by simp [pad]
  rw [e0]
  refine loop_intro (fun A : List Int => ⟨[(0, .sl 0 0 S.length c), (1, .i .i64 M), (6, .sl 1 0 S.length c1), (21, .i .i64 S.length), (22, .i .i64 A.length)], [.ro (encTask.row S), .rw ty_int (encInt.row (pad S A)) c1]⟩) (fun A => FFok S M A) (fun A => S.length - A.length) [] ⟨Nat.zero_le _, fun i hi => absurd hi (by simp)⟩ (Wk.pick [0, 1]) ?_
  intro A hA
  have hl := hA.1
  simp only [l1_impl_FirstFit, not_true_eq_false, not_false_eq_true, decide_true, decide_false, Bool.not_true, Bool.not_false, false_implies, true_implies, and_true, true_and, Bool.false_eq_true, Bool.true_eq_false, implies_true, Bool.not_not, Classical.not_not, go_sem, Int.reduceToNat, List.take_nil, Nat.zero_mul, Nat.reduceEqDiff, Nat.reduceAdd, Nat.reduceLT, Nat.reduceLeDiff, Nat.reduceMul, ↓reduceIte, reduceCtorEq]
  refine ⟨fun hlt => ?_, fun hge => ?_⟩
  · have hlt : A.length < S.length := by omega
    have hpl := pad_length hl
    refine loop_intro (fun i : Nat × List Int => ⟨[(0, .sl 0 0 S.length c), (1, .i .i64 M), (6, .sl 1 0 S.length c1), (7, .i .i64 A.length), (8, .i .i64 i.1), (21, .i .i64 S.length), (22, .i .i64 A.length)], [.ro (encTask.row S), .rw ty_int (encInt.row (pad S i.2)) c1]⟩)
      (fun i => i.1 ≤ M ∧ ((i.2 = A ∧ ∀ c : Int, 0 ≤ c → c < i.1 → ¬ feas (onC S A c A.length ++ [gT S A.length])) ∨ ∃ r : Int, 0 ≤ r ∧ i.2 = A ++ [r] ∧ FFok S M (A ++ [r]))) (fun i => M - i.1) (0, A) ⟨Nat.zero_le _, .inl ⟨rfl, fun c h1 h2 => by simp only at h2; omega⟩⟩ (Wk.keep (by simp [look_cons])) ?_
    rintro ⟨k, B⟩ ⟨hk, hB⟩
    simp only at hk hB
    have gt : gT S A.length = S[A.length] := by simp [gT, List.getD_eq_getElem?_getD, hlt]
    simp only [l0_impl_FirstFit, not_true_eq_false, not_false_eq_true, decide_true, decide_false, Bool.not_true, Bool.not_false, false_implies, true_implies, and_true, true_and, Bool.false_eq_true, Bool.true_eq_false, implies_true, Bool.not_not, Classical.not_not, go_sem, Int.reduceToNat, List.take_nil, Nat.zero_mul, Nat.reduceEqDiff, Nat.reduceAdd, Nat.reduceLT, Nat.reduceLeDiff, Nat.reduceMul, ↓reduceIte, reduceCtorEq]
    rcases hB with ⟨rfl, hJ⟩ | ⟨r, hr0, rfl, hJ⟩
    · have hpi : B.length < (pad S B).length := by omega
      have hg := pad_get hlt hpi
      simp only [rdI hpi, hg, lenI, hpl, not_true_eq_false, not_false_eq_true, decide_true, decide_false, Bool.not_true, Bool.not_false, false_implies, true_implies, and_true, true_and, Bool.false_eq_true, Bool.true_eq_false, implies_true, Bool.not_not, Classical.not_not, go_sem, Int.reduceToNat, List.take_nil, Nat.zero_mul, Nat.reduceEqDiff, Nat.reduceAdd, Nat.reduceLT, Nat.reduceLeDiff, Nat.reduceMul, ↓reduceIte, reduceCtorEq]
      refine ⟨fun hkM => ⟨hlt, hlt, fun _ => ?_, fun h => absurd (by decide) h⟩, fun hkM => ⟨hlt, hlt, fun _ => ?_, fun h => absurd (by decide) h⟩⟩
      · have hsub := onC_next B (k : Int) hlt
        have hok := setOk_sub hsub hS
        have hpad := onC_pad hl (show (0 : Int) ≤ k by omega)
        refine seq_join (fun _ : Unit => ⟨[(0, .sl 0 0 S.length c), (1, .i .i64 M), (6, .sl 1 0 S.length c1), (7, .i .i64 B.length), (8, .i .i64 k), (21, .i .i64 S.length), (22, .i .i64 B.length), (47, .b (decide (feas (onC S B k B.length ++ [S[B.length]]))))], [.ro (encTask.row S), .rw ty_int (encInt.row (pad S B)) c1]⟩) (fun _ => True) ?_ fun _ _ => ?_
        · simp only [winT hlt, encTf, lenT, not_true_eq_false, not_false_eq_true, decide_true, decide_false, Bool.not_true, Bool.not_false, false_implies, true_implies, and_true, true_and, Bool.false_eq_true, Bool.true_eq_false, implies_true, Bool.not_not, Classical.not_not, go_sem, Int.reduceToNat, List.take_nil, Nat.zero_mul, Nat.reduceEqDiff, Nat.reduceAdd, Nat.reduceLT, Nat.reduceLeDiff, Nat.reduceMul, ↓reduceIte, reduceCtorEq]
          refine ⟨hlt, by omega, impl_onCore_ (S := S) (A := pad S B) k (by omega) (by omega) (Rd.own rfl) (Rd.owL rfl hpl) fun x τ hx => ?_, impl_onCore_ (S := S) (A := pad S B) k (by omega) (by omega) (Rd.own rfl) (Rd.owL rfl hpl) fun x τ hx => ?_⟩
          all_goals
            have hlen := hsub.length_le
            rw [List.length_append, List.length_singleton] at hlen
            rw [hpad] at hx
            generalize onC S B k B.length = M' at *
            rcases hx with ⟨rfl, rfl, rfl⟩ | ⟨c2, rfl, rfl⟩
            · simp only [winT hlt, encTf, lenT, not_true_eq_false, not_false_eq_true, decide_true, decide_false, Bool.not_true, Bool.not_false, false_implies, true_implies, and_true, true_and, Bool.false_eq_true, Bool.true_eq_false, implies_true, Bool.not_not, Classical.not_not, go_sem, Int.reduceToNat, List.take_nil, Nat.zero_mul, Nat.reduceEqDiff, Nat.reduceAdd, Nat.reduceLT, Nat.reduceLeDiff, Nat.reduceMul, ↓reduceIte, reduceCtorEq]
              refine ⟨by omega, fun cap hcap => ⟨by omega, ?_⟩⟩
              refine impl_feasible_ (S := [] ++ [S[B.length]]) hok (Rd.owL rfl (by simp)) ?_
              simp only [winT hlt, encTf, lenT, not_true_eq_false, not_false_eq_true, decide_true, decide_false, Bool.not_true, Bool.not_false, false_implies, true_implies, and_true, true_and, Bool.false_eq_true, Bool.true_eq_false, implies_true, Bool.not_not, Classical.not_not, go_sem, Int.reduceToNat, List.take_nil, Nat.zero_mul, Nat.reduceEqDiff, Nat.reduceAdd, Nat.reduceLT, Nat.reduceLeDiff, Nat.reduceMul, ↓reduceIte, reduceCtorEq]
              exact ⟨by omega, kJ_intro () trivial (Wk.pick [0, 1])⟩
            · simp only [winT hlt, encTf, lenT, not_true_eq_false, not_false_eq_true, decide_true, decide_false, Bool.not_true, Bool.not_false, false_implies, true_implies, and_true, true_and, Bool.false_eq_true, Bool.true_eq_false, implies_true, Bool.not_not, Classical.not_not, go_sem, Int.reduceToNat, List.take_nil, Nat.zero_mul, Nat.reduceEqDiff, Nat.reduceAdd, Nat.reduceLT, Nat.reduceLeDiff, Nat.reduceMul, ↓reduceIte, reduceCtorEq]
              refine ⟨by omega, by omega, fun cap hcap => ⟨by omega, ?_⟩⟩
              have e3 : Abs.win (encTask.row M') 0 (M'.length * 3) ++ [AV.i IntKind.i64 S[B.length].C, AV.i IntKind.i64 S[B.length].D, AV.i IntKind.i64 S[B.length].P] = encTask.row (M' ++ [S[B.length]]) := by
                rw [show Abs.win (encTask.row M') 0 (M'.length * 3) = encTask.row M' by unfold Abs.win; rw [List.drop_zero, takeT], appT]
              rw [e3]
              refine impl_feasible_ (S := M' ++ [S[B.length]]) hok (Rd.owL rfl (by simp)) ?_
              simp only [winT hlt, encTf, lenT, not_true_eq_false, not_false_eq_true, decide_true, decide_false, Bool.not_true, Bool.not_false, false_implies, true_implies, and_true, true_and, Bool.false_eq_true, Bool.true_eq_false, implies_true, Bool.not_not, Classical.not_not, go_sem, Int.reduceToNat, List.take_nil, Nat.zero_mul, Nat.reduceEqDiff, Nat.reduceAdd, Nat.reduceLT, Nat.reduceLeDiff, Nat.reduceMul, ↓reduceIte, reduceCtorEq]
              exact ⟨by omega, kJ_intro () trivial (Wk.pick [0, 1])⟩
        · simp only [splI hpi, lenI, hpl, not_true_eq_false, not_false_eq_true, decide_true, decide_false, Bool.not_true, Bool.not_false, false_implies, true_implies, and_true, true_and, Bool.false_eq_true, Bool.true_eq_false, implies_true, Bool.not_not, Classical.not_not, go_sem, Int.reduceToNat, List.take_nil, Nat.zero_mul, Nat.reduceEqDiff, Nat.reduceAdd, Nat.reduceLT, Nat.reduceLeDiff, Nat.reduceMul, ↓reduceIte, reduceCtorEq]
          refine ⟨fun hf => ?_, fun hf => ?_⟩
          · have hn := hA.snoc hlt (r := k) (by omega) (by rw [gt]; exact hf) hJ
            refine ⟨hlt, by omega, by omega, (k + 1, B ++ [(k : Int)]), ⟨⟨by simp only; omega, .inr ⟨k, by omega, rfl, hn⟩⟩, by simp only; omega⟩, ?_⟩
            simp only [pad_set hlt]
            exact Wk.pick [0, 1]
          · refine ⟨by omega, (k + 1, B), ⟨⟨by simp only; omega, .inl ⟨rfl, fun c h1 h2 => ?_⟩⟩, by simp only; omega⟩, Wk.pick [0, 1]⟩
            by_cases e : c = k
            · rw [e, gt]; exact hf
            · exact hJ c h1 (by simp only at h2; omega)
      · exact Fin.pick [0] (.tup [.sn, .b false]) [.ro (encTask.row S)] ⟨_, rfl, .inr ⟨rfl, rfl, fun _ => .inr ⟨rfl, rfl, B, hA, by omega, fun c h1 h2 => hJ c h1 (by omega)⟩⟩⟩
    · have hpl2 := pad_length hJ.1
      have hpi : A.length < (pad S (A ++ [r])).length := by omega
      have hg := pad_got hlt hpi
      simp only [rdI hpi, hg, lenI, hpl2, not_true_eq_false, not_false_eq_true, decide_true, decide_false, Bool.not_true, Bool.not_false, false_implies, true_implies, and_true, true_and, Bool.false_eq_true, Bool.true_eq_false, implies_true, Bool.not_not, Classical.not_not, go_sem, Int.reduceToNat, List.take_nil, Nat.zero_mul, Nat.reduceEqDiff, Nat.reduceAdd, Nat.reduceLT, Nat.reduceLeDiff, Nat.reduceMul, ↓reduceIte, reduceCtorEq]
      have e2 : (A ++ [r]).length = A.length + 1 := by simp
      refine ⟨fun hkM => ⟨hlt, hlt, fun h => absurd h (by omega), fun _ => ⟨hlt, hlt, fun h => absurd h (by omega), fun _ => ?_⟩⟩, fun hkM => ⟨hlt, hlt, fun h => absurd h (by omega), fun _ => ?_⟩⟩
      all_goals
        refine ⟨by omega, A ++ [r], ⟨hJ, by simp only [e2]; omega⟩, ?_⟩
        simp only [e2]
        exact Wk.pick [0, 1]
  · have e : A.length = S.length := by omega
    rw [pad_all e, ← e]
    exact Fin.plain ⟨_, rfl, .inl ⟨A, _, _, rfl, rfl, ⟨hS, by omega, by omega⟩, .inl ⟨rfl, hA, e⟩⟩⟩
theorem impl_FirstFit_ {S : List Task} (hs : S.length ≤ 1048576) {m : Int} {v : AV} {σ : List AB} (h : Rd encTask σ v S) {K : AV → List AB → Prop} (hk : ∀ x τ, FFI σ.length S m x τ → K x (σ ++ τ)) : CallWp Try.prog n_impl_FirstFit [v, .i .i64 m] σ K := by
  refine call_news _ (rds1 h.r) (fun c => [.sl 0 0 S.length (c 0), .i .i64 m]) (FFI 1 S m) (fun c => impl_FirstFit0 S hs m (c 0)) (fun _ _ h => h.fr) (fun ν c h => ⟨h.1, .inl rfl, trivial⟩) (fun _ => rfl) ?_
  rintro x τ (⟨A, c, r, rfl, rfl, h⟩ | ⟨rfl, rfl, h⟩)
  · exact hk _ _ (.inl ⟨A, c, r, rfl, rfl, h⟩)
  · exact hk _ _ (.inr ⟨rfl, rfl, h⟩)
end Go.Proofs.Ytfngcejaphhmmaa
