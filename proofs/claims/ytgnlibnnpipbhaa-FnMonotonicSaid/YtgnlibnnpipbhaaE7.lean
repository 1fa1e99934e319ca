import Derived.Test.YtgnlibnnpipbhaaC1
namespace Go.Proofs.Ytgnlibnnpipbhaa
open Go.Abs Go.Ds
set_option linter.unusedSimpArgs false
set_option linter.unusedVariables false
theorem laws_sameInts0 (L M : List Int) (hs : L.length ≤ 1099511627776) (c c' : Nat) : CallWp Try.prog n_laws_sameInts [.sl 0 0 L.length c, .sl 1 0 M.length c'] [.ro (encInt.row L), .ro (encInt.row M)] (fun x σ => x = .b (decide (L = M)) ∧ σ = [.ro (encInt.row L), .ro (encInt.row M)]) := by
  refine call_laws_sameInts (by simp) ?_
  simp only [c_laws_sameInts, go_sem, Int.reduceToNat, List.take_nil, Nat.zero_mul, Nat.reduceEqDiff, Nat.reduceAdd, Nat.reduceLT, Nat.reduceLeDiff, Nat.reduceMul, ↓reduceIte, reduceCtorEq]
  refine ⟨fun h => Fin.same ?_, fun hl => ?_⟩
  · congr 1; symm; apply decide_eq_false; rintro rfl; exact h rfl
  refine loop_count L.length (fun k => ⟨[(0, .sl 0 0 L.length c), (1, .sl 1 0 M.length c'), (5, .i .i64 k)], [.ro (encInt.row L), .ro (encInt.row M)]⟩) (fun k => L.take k = M.take k) (by simp) (Wk.pick [0, 1]) fun k hk hJ => ?_
  simp only [l0_laws_sameInts, go_sem, Int.reduceToNat, List.take_nil, Nat.zero_mul, Nat.reduceEqDiff, Nat.reduceAdd, Nat.reduceLT, Nat.reduceLeDiff, Nat.reduceMul, ↓reduceIte, reduceCtorEq, lenT, rdT0, rdT1, rdT2, winT, takeT, appT, splT, splI, winI, lenI, rdI, takeI, appI]
  refine ⟨fun h => ?_, fun h => Fin.same ?_⟩
  · have h' : k < M.length := by omega
    simp only [go_sem, Int.reduceToNat, List.take_nil, Nat.zero_mul, Nat.reduceEqDiff, Nat.reduceAdd, Nat.reduceLT, Nat.reduceLeDiff, Nat.reduceMul, ↓reduceIte, reduceCtorEq, lenT, rdT0, rdT1, rdT2, winT, takeT, appT, splT, splI, winI, lenI, rdI, takeI, appI, h, h']
    refine ⟨fun h1 => Fin.same ?_, fun h1 => ⟨by omega, ?_, Wk.pick [0, 1]⟩⟩
    · congr 1; symm; apply decide_eq_false; rintro rfl; exact h1 rfl
    · rw [List.take_succ_eq_append_getElem h, List.take_succ_eq_append_getElem h', hJ, h1]
  · congr 1; symm; apply decide_eq_true
    rw [List.take_of_length_le (by omega), List.take_of_length_le (by omega)] at hJ
    exact hJ
theorem laws_sameInts_ {L M : List Int} (hs : L.length ≤ 1099511627776) {v u : AV} {σ : List AB} (h : Rd encInt σ v L) (h' : Rd encInt σ u M) {K : AV → List AB → Prop} (hk : K (.b (decide (L = M))) σ) : CallWp Try.prog n_laws_sameInts [v, u] σ K :=
  call_rds _ (rds_cons h.r (rds1 h'.r)) (fun c => [.sl 0 0 L.length (c 0), .sl 1 0 M.length (c 1)]) (fun c => laws_sameInts0 L M hs (c 0) (c 1)) (fun ν c h => ⟨h.1, h.2.1, trivial⟩) (fun _ => rfl) rfl hk
end Go.Proofs.Ytgnlibnnpipbhaa
