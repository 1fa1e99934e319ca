import Derived.Test.YtfngcejaphhmmaaGreatDoorC6
import Derived.Test.YtfngcejaphhmmaaGreatDoorMM
namespace Go.Proofs.YtfngcejaphhmmaaGreatDoor
open Go.Abs Go.Ds
set_option linter.unusedSimpArgs false
set_option linter.unusedVariables false
set_option maxRecDepth 20000
theorem impl_ResponseTimes_no (S : List Task) (O : List Int) (hs : S.length ≤ 1099511627776) (ho : O.length ≤ 1099511627776) (h : ¬ ordOk S O) (c c' : Nat) : CallWp Tryz.prog n_impl_ResponseTimes [.sl 0 0 S.length c, .sl 1 0 O.length c'] [.ro (encTask.row S), .ro (encInt.row O)]
    (fun x σ => x = .sn ∧ σ = [.ro (encTask.row S), .ro (encInt.row O)]) := by
  refine call_impl_ResponseTimes (by simp) ?_
  simp only [c_impl_ResponseTimes, go_sem, Int.reduceToNat, List.take_nil, Nat.zero_mul, Nat.reduceEqDiff, Nat.reduceAdd, Nat.reduceLT, Nat.reduceLeDiff, Nat.reduceMul, ↓reduceIte, reduceCtorEq]
  refine impl_OrderValid_ hs ho (Rd.own rfl) (Rd.own rfl) ?_
  simp only [go_sem, Int.reduceToNat, List.take_nil, Nat.zero_mul, Nat.reduceEqDiff, Nat.reduceAdd, Nat.reduceLT, Nat.reduceLeDiff, Nat.reduceMul, ↓reduceIte, reduceCtorEq]
  exact ⟨fun _ => Fin.same rfl, fun h2 => absurd h2 h⟩
theorem impl_ResponseTimes_yes (S : List Task) (O : List Int) (hO : ordOk S O) (c c' : Nat) : CallWp Tryz.prog n_impl_ResponseTimes [.sl 0 0 S.length c, .sl 1 0 O.length c'] [.ro (encTask.row S), .ro (encInt.row O)]
    (fun x σ => ∃ cap, x = .sl 2 0 S.length cap ∧ σ = [.ro (encTask.row S), .ro (encInt.row O)] ++ [.rw ty_int (encInt.row (resps S (List.replicate S.length 0) O O.length)) (cap * 1)]) := by
  have hl := hO.1.1
  have hol := hO.2.1
  refine call_impl_ResponseTimes (by simp) ?_
  simp only [c_impl_ResponseTimes, go_sem, Int.reduceToNat, List.take_nil, Nat.zero_mul, Nat.reduceEqDiff, Nat.reduceAdd, Nat.reduceLT, Nat.reduceLeDiff, Nat.reduceMul, ↓reduceIte, reduceCtorEq]
  refine impl_OrderValid_ (by omega) (by omega) (Rd.own rfl) (Rd.own rfl) ?_
  simp only [go_sem, Int.reduceToNat, List.take_nil, Nat.zero_mul, Nat.reduceEqDiff, Nat.reduceAdd, Nat.reduceLT, Nat.reduceLeDiff, Nat.reduceMul, ↓reduceIte, reduceCtorEq]
  refine ⟨fun h2 => absurd hO h2, fun _ => ⟨by omega, ?_⟩⟩
  rw [show rep S.length [AV.i .i64 0] = encInt.row (List.replicate S.length 0) from encInt.rep 0 _]
  refine impl_responses_ (J := List.replicate S.length 0) (zeros_ok hO.1) hO (Rd.own rfl) ?_ (Rd.own rfl) fun cap => ?_
  · have e : (List.replicate S.length (0 : Int)).length = S.length := by simp
    have := Rd.own (E := encInt) (σ := [.ro (encTask.row S), .ro (encInt.row O), .rw ty_int (encInt.row (List.replicate S.length 0)) S.length]) (n := 2) (cap := S.length) (L := List.replicate S.length 0) rfl
    rwa [e] at this
  simp only [go_sem, Int.reduceToNat, List.take_nil, Nat.zero_mul, Nat.reduceEqDiff, Nat.reduceAdd, Nat.reduceLT, Nat.reduceLeDiff, Nat.reduceMul, ↓reduceIte, reduceCtorEq]
  exact Fin.pick [0, 1, 3] (.sl 2 0 S.length cap) _ ⟨cap, rfl, rfl⟩
section
variable {S : List Task} {O : List Int} {v z : AV} {σ : List AB} {K : AV → List AB → Prop}
theorem impl_ResponseTimes_ (hs : S.length ≤ 1099511627776) (ho : O.length ≤ 1099511627776) (h1 : Rd encTask σ v S) (h3 : Rd encInt σ z O) (hn : ¬ ordOk S O → K .sn σ)
    (hy : ordOk S O → ∀ cap, K (.sl σ.length 0 S.length cap) (σ ++ [.rw ty_int (encInt.row (resps S (List.replicate S.length 0) O O.length)) (cap * 1)])) : CallWp Tryz.prog n_impl_ResponseTimes [v, z] σ K := by
  by_cases h : ordOk S O
  · exact call_new _ (rds_cons h1.r (rds1 h3.r)) (fun c => [.sl 0 0 S.length (c 0), .sl 1 0 O.length (c 1)]) (fun c => impl_ResponseTimes_yes S O h (c 0) (c 1)) (fun ν c h => ⟨h.1, h.2.1, trivial⟩) (fun _ => rfl) (encInt.row_flat _) (hy h)
  · exact call_rds _ (rds_cons h1.r (rds1 h3.r)) (fun c => [.sl 0 0 S.length (c 0), .sl 1 0 O.length (c 1)]) (fun c => impl_ResponseTimes_no S O hs ho h (c 0) (c 1)) (fun ν c h => ⟨h.1, h.2.1, trivial⟩) (fun _ => rfl) rfl (hn h)
end
end Go.Proofs.YtfngcejaphhmmaaGreatDoor
