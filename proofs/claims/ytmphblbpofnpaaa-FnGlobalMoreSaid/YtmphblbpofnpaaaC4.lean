import Derived.Test.YtmphblbpofnpaaaC1
import Derived.Test.YtmphblbpofnpaaaMM
namespace Go.Proofs.Ytmphblbpofnpaaa
open Go.Abs Go.Ds
set_option linter.unusedSimpArgs false
set_option linter.unusedVariables false
theorem spec_l4Index0 (L : List Int) (n : Int) (hs : L.length ≤ 1099511627776) (c : Nat) : CallWp Try.prog n_spec_l4Index [.sl 0 0 L.length c, .i .i64 n] [.ro (encInt.row L)] (fun x σ => x = .i .i64 (idxF (fun y => decide (y = n)) L) ∧ σ = [.ro (encInt.row L)]) := by
  refine call_spec_l4Index (by simp) ?_
  simp only [c_spec_l4Index, go_sem, Int.reduceToNat, List.take_nil, Nat.zero_mul, Nat.reduceEqDiff, Nat.reduceAdd, Nat.reduceLT, Nat.reduceLeDiff, Nat.reduceMul, ↓reduceIte, reduceCtorEq]
  refine loop_count L.length (fun k => ⟨[(0, .sl 0 0 L.length c), (1, .i .i64 n), (5, .i .i64 k)], [.ro (encInt.row L)]⟩) (fun k => ∀ x ∈ L.take k, decide (x = n) = false) (by simp) (Wk.pick [0]) fun k hk hJ => ?_
  simp only [l0_spec_l4Index, go_sem, Int.reduceToNat, List.take_nil, Nat.zero_mul, Nat.reduceEqDiff, Nat.reduceAdd, Nat.reduceLT, Nat.reduceLeDiff, Nat.reduceMul, ↓reduceIte, reduceCtorEq, lenT, rdT0, rdT1, rdT2, winT, takeT, appT, splT, splI, winI, lenI, rdI, takeI, appI]
  refine ⟨fun h => ?_, fun h => Fin.same ?_⟩
  · simp only [go_sem, Int.reduceToNat, List.take_nil, Nat.zero_mul, Nat.reduceEqDiff, Nat.reduceAdd, Nat.reduceLT, Nat.reduceLeDiff, Nat.reduceMul, ↓reduceIte, reduceCtorEq, lenT, rdT0, rdT1, rdT2, winT, takeT, appT, splT, splI, winI, lenI, rdI, takeI, appI, h]
    refine ⟨fun e => Fin.same ?_, fun e => ⟨by omega, ?_, Wk.pick [0]⟩⟩
    · congr 1; rw [idxF_found h hJ (by simp [e])]
    · rw [all_take_succ h]; exact ⟨hJ, by simp; exact fun e' => e e'⟩
  · have e : k = L.length := by omega
    subst e
    rw [List.take_length] at hJ
    rw [idxF_none hJ]
theorem spec_l4Index_ {L : List Int} (n : Int) (hs : L.length ≤ 1099511627776) {v : AV} {σ : List AB} (h : Rd encInt σ v L) {K : AV → List AB → Prop} (hk : K (.i .i64 (idxF (fun y => decide (y = n)) L)) σ) : CallWp Try.prog n_spec_l4Index [v, .i .i64 n] σ K :=
  call_rds _ (rds1 h.r) (fun c => [.sl 0 0 L.length (c 0), .i .i64 n]) (fun c => spec_l4Index0 L n hs (c 0)) (fun ν c h => ⟨h.1, .inl rfl, trivial⟩) (fun _ => rfl) rfl hk
theorem Rd.first {α : Type} {E : Enc α} {σ : List AB} {n cap k : Nat} {L : List α} (h : cellsOf σ n = some (E.row L)) (hk : k ≤ L.length) : Rd E σ (.sl n 0 k cap) (L.take k) := by
  have hl : (L.take k).length = k := by rw [List.length_take]; omega
  refine .inl ⟨n, 0, cap, E.row L, by rw [hl], ?_, h, ?_, ?_⟩
  · rcases cellsOf_cases h with hh | ⟨_, _, hh⟩ <;> exact (List.getElem?_eq_some_iff.1 hh).1
  · rw [hl, E.row_length, Nat.zero_add]; exact Nat.mul_le_mul_right _ hk
  · rw [hl]; simp only [win, List.drop_zero]; exact E.take L k
end Go.Proofs.Ytmphblbpofnpaaa
