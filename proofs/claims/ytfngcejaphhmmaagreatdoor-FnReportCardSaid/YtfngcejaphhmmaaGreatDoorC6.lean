import Derived.Test.YtfngcejaphhmmaaGreatDoorC5
namespace Go.Proofs.YtfngcejaphhmmaaGreatDoor
open Go.Abs Go.Ds
set_option linter.unusedSimpArgs false
set_option linter.unusedVariables false
set_option maxRecDepth 20000
theorem inst_at {S : List Task} {J O : List Int} (hJ : jitOk S J) (hO : ordOk S O) {k : Nat} (hk : k < O.length) : Inst S J (O.take k) O[k] := by
  refine ⟨hJ.1, hJ, fun x hx => hO.2.2.1 x (List.mem_of_mem_take hx), hO.2.2.1 _ (List.getElem_mem hk), ?_⟩
  have := hJ.1.1
  have := hO.2.1
  rw [List.length_take]; omega
theorem resps_next {S : List Task} {J O : List Int} {k : Nat} (hk : k < O.length) : resps S J O (k + 1) = (resps S J O k).set O[k].toNat (respOf S J (O.take k) O[k]) := by
  simp [resps, List.getD_eq_getElem?_getD, hk]
theorem impl_responses0 (S : List Task) (J O : List Int) (hJ : jitOk S J) (hO : ordOk S O) (c c' c3 : Nat) : CallWp Tryz.prog n_impl_responses [.sl 0 0 S.length c, .sl 1 0 J.length c', .sl 2 0 O.length c3] [.ro (encTask.row S), .ro (encInt.row J), .ro (encInt.row O)]
    (fun x σ => ∃ cap, x = .sl 3 0 S.length cap ∧ σ = [.ro (encTask.row S), .ro (encInt.row J), .ro (encInt.row O)] ++ [.rw ty_int (encInt.row (resps S J O O.length)) (cap * 1)]) := by
  have hl := hJ.1.1
  have hol := hO.2.1
  refine call_impl_responses (by simp) ?_
  simp only [c_impl_responses, go_sem, Int.reduceToNat, List.take_nil, Nat.zero_mul, Nat.reduceEqDiff, Nat.reduceAdd, Nat.reduceLT, Nat.reduceLeDiff, Nat.reduceMul, ↓reduceIte, reduceCtorEq]
  refine ⟨by omega, ?_⟩
  rw [show rep S.length [AV.i .i64 0] = encInt.row (resps S J O 0) from encInt.rep 0 _]
  refine loop_count O.length (fun k => ⟨[(0, .sl 0 0 S.length c), (1, .sl 1 0 J.length c'), (2, .sl 2 0 O.length c3), (7, .sl 3 0 S.length S.length), (13, .sl 2 0 O.length c3), (14, .i .i64 O.length), (15, .i .i64 k)], [.ro (encTask.row S), .ro (encInt.row J), .ro (encInt.row O), .rw ty_int (encInt.row (resps S J O k)) S.length]⟩) (fun _ => True) trivial (Wk.pick [0, 1, 2, 3]) fun k hk _ => ?_
  simp only [l0_impl_responses, go_sem, Int.reduceToNat, List.take_nil, Nat.zero_mul, Nat.reduceEqDiff, Nat.reduceAdd, Nat.reduceLT, Nat.reduceLeDiff, Nat.reduceMul, ↓reduceIte, reduceCtorEq, lenT, rdT0, rdT1, rdT2, winT, takeT, appT, splT, splI, winI, lenI, rdI, takeI, appI]
  refine ⟨fun h => ?_, fun h => ?_⟩
  · have hr := hO.2.2.1 _ (List.getElem_mem h)
    have hi : O[k].toNat < (resps S J O k).length := by rw [resps_length]; omega
    simp only [go_sem, Int.reduceToNat, List.take_nil, Nat.zero_mul, Nat.reduceEqDiff, Nat.reduceAdd, Nat.reduceLT, Nat.reduceLeDiff, Nat.reduceMul, ↓reduceIte, reduceCtorEq, lenT, rdT0, rdT1, rdT2, winT, takeT, appT, splT, splI, winI, lenI, rdI, takeI, appI, h]
    refine ⟨by omega, impl_response_ (inst_at hJ hO h) (Rd.own rfl) (Rd.own rfl) (Rd.first rfl (by omega)) ?_⟩
    simp only [go_sem, Int.reduceToNat, List.take_nil, Nat.zero_mul, Nat.reduceEqDiff, Nat.reduceAdd, Nat.reduceLT, Nat.reduceLeDiff, Nat.reduceMul, ↓reduceIte, reduceCtorEq, lenT, rdT0, rdT1, rdT2, winT, takeT, appT, splT, splI, winI, lenI, rdI, takeI, appI, h, hi, resps_length]
    rw [splI hi, ← resps_next h]
    refine ⟨by omega, by omega, by omega, Wk.pick [0, 1, 2, 3]⟩
  · have e : k = O.length := by omega
    subst e
    exact Fin.plain ⟨S.length, rfl, rfl⟩
section
variable {S : List Task} {J O : List Int} {v u z : AV} {σ : List AB} {K : AV → List AB → Prop}
theorem impl_responses_ (hJ : jitOk S J) (hO : ordOk S O) (h1 : Rd encTask σ v S) (h2 : Rd encInt σ u J) (h3 : Rd encInt σ z O) (hk : ∀ cap, K (.sl σ.length 0 S.length cap) (σ ++ [.rw ty_int (encInt.row (resps S J O O.length)) (cap * 1)])) : CallWp Tryz.prog n_impl_responses [v, u, z] σ K :=
  call_new _ (rds_cons h1.r (rds_cons h2.r (rds1 h3.r))) (fun c => [.sl 0 0 S.length (c 0), .sl 1 0 J.length (c 1), .sl 2 0 O.length (c 2)]) (fun c => impl_responses0 S J O hJ hO (c 0) (c 1) (c 2)) (fun ν c h => ⟨h.1, h.2.1, h.2.2.1, trivial⟩) (fun _ => rfl) (encInt.row_flat _) hk
end
section
variable {S : List Task} {J O : List Int} {v u z : AV} {σ : List AB} {K : AV → List AB → Prop}
end
end Go.Proofs.YtfngcejaphhmmaaGreatDoor
