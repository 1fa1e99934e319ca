import Derived.Test.YtmphblbpofnpaaaAbsY
import Derived.Test.YtmphblbpofnpaaaC1
namespace Go.Proofs.Ytmphblbpofnpaaa
open Go.Abs Go.Ds
set_option linter.unusedSimpArgs false
set_option linter.unusedVariables false
set_option maxRecDepth 20000
theorem laws_markIntS0 (L : List Int) (k : Int) (hs : L.length ≤ 1099511627776) (hk : 0 ≤ k ∧ k ≤ 1099511627776) (c r : Nat) : CallWp Try.prog n_laws_markIntS [.sl 0 0 L.length c, .i .i64 k] [.rw ty_int (encInt.row L) r]
    (fun x σ => x = .i .i64 (k + L.length) ∧ σ = [.rw ty_int (encInt.row (marked k L L.length)) r]) := by
  refine call_laws_markIntS (by simp) ?_
  simp only [c_laws_markIntS, go_sem, Int.reduceToNat, List.take_nil, Nat.zero_mul, Nat.reduceEqDiff, Nat.reduceAdd, Nat.reduceLT, Nat.reduceLeDiff, Nat.reduceMul, ↓reduceIte, reduceCtorEq]
  refine loop_count L.length (fun m => ⟨[(0, .sl 0 0 L.length c), (1, .i .i64 (k + m)), (5, .i .i64 m)], [.rw ty_int (encInt.row (marked k L m)) r]⟩) (fun _ => True) trivial ?_ fun m hm _ => ?_
  · rw [marked_zero]
    exact Wk.pick [0]
  simp only [l0_laws_markIntS, go_sem, Int.reduceToNat, List.take_nil, Nat.zero_mul, Nat.reduceEqDiff, Nat.reduceAdd, Nat.reduceLT, Nat.reduceLeDiff, Nat.reduceMul, ↓reduceIte, reduceCtorEq, lenT, rdT0, rdT1, rdT2, winT, takeT, appT, splT, splI, winI, lenI, rdI, takeI, appI]
  refine ⟨fun h => ?_, fun h => ?_⟩
  · have hm' : m < (marked k L m).length := by rw [marked_length _ _ _ hm]; exact h
    simp only [go_sem, Int.reduceToNat, List.take_nil, Nat.zero_mul, Nat.reduceEqDiff, Nat.reduceAdd, Nat.reduceLT, Nat.reduceLeDiff, Nat.reduceMul, ↓reduceIte, reduceCtorEq, lenT, rdT0, rdT1, rdT2, winT, takeT, appT, splT, splI, winI, lenI, rdI, takeI, appI, h, marked_length _ _ _ hm]
    rw [marked_set k L m h]
    refine ⟨by omega, by omega, by omega, Wk.pick [0] (by simp [seesT, belowT, below1, below, sees, ren, ren1, renC, rnp, nat2, look_cons]; omega)⟩
  · have e : m = L.length := by omega
    subst e
    exact Fin.plain ⟨rfl, rfl⟩
theorem laws_markIntS_ {L : List Int} {k : Int} (hs : L.length ≤ 1099511627776) (hk : 0 ≤ k ∧ k ≤ 1099511627776) {σ : List AB} {n c r : Nat} (h : σ[n]? = some (.rw ty_int (encInt.row L) r)) {K : AV → List AB → Prop} (hK : K (.i .i64 (k + L.length)) (σ.set n (.rw ty_int (encInt.row (marked k L L.length)) r))) :
    CallWp Try.prog n_laws_markIntS [.sl n 0 L.length c, .i .i64 k] σ K :=
  call_mut h (encInt.row_flat _) (encInt.row_flat _) (laws_markIntS0 L k hs hk c r) rfl rfl hK
theorem laws_heldIntS0 (L : List Int) (k : Int) (hs : L.length ≤ 1099511627776) (hk : 0 ≤ k ∧ k ≤ 1099511627776) (hrun : isRun k L) (c : Nat) : CallWp Try.prog n_laws_heldIntS [.sl 0 0 L.length c, .i .i64 k] [.ro (encInt.row L)]
    (fun x σ => x = .i .i64 (k + L.length) ∧ σ = [.ro (encInt.row L)]) := by
  refine call_laws_heldIntS (by simp) ?_
  simp only [c_laws_heldIntS, go_sem, Int.reduceToNat, List.take_nil, Nat.zero_mul, Nat.reduceEqDiff, Nat.reduceAdd, Nat.reduceLT, Nat.reduceLeDiff, Nat.reduceMul, ↓reduceIte, reduceCtorEq]
  refine loop_count L.length (fun m => ⟨[(0, .sl 0 0 L.length c), (1, .i .i64 (k + m)), (5, .i .i64 m)], [.ro (encInt.row L)]⟩) (fun _ => True) trivial (Wk.pick [0]) fun m hm _ => ?_
  simp only [l0_laws_heldIntS, go_sem, Int.reduceToNat, List.take_nil, Nat.zero_mul, Nat.reduceEqDiff, Nat.reduceAdd, Nat.reduceLT, Nat.reduceLeDiff, Nat.reduceMul, ↓reduceIte, reduceCtorEq, lenT, rdT0, rdT1, rdT2, winT, takeT, appT, splT, splI, winI, lenI, rdI, takeI, appI]
  refine ⟨fun h => ?_, fun h => ?_⟩
  · simp only [go_sem, Int.reduceToNat, List.take_nil, Nat.zero_mul, Nat.reduceEqDiff, Nat.reduceAdd, Nat.reduceLT, Nat.reduceLeDiff, Nat.reduceMul, ↓reduceIte, reduceCtorEq, lenT, rdT0, rdT1, rdT2, winT, takeT, appT, splT, splI, winI, lenI, rdI, takeI, appI, h]
    refine ⟨fun e => absurd (hrun m h) e, fun e => ⟨by omega, by omega, Wk.pick [0] (by simp [seesT, belowT, below1, below, sees, ren, ren1, renC, rnp, nat2, look_cons]; omega)⟩⟩
  · have e : m = L.length := by omega
    subst e
    exact Fin.same rfl
theorem laws_heldIntS_ {L : List Int} {k : Int} (hs : L.length ≤ 1099511627776) (hk : 0 ≤ k ∧ k ≤ 1099511627776) (hrun : isRun k L) {v : AV} {σ : List AB} (h : Rd encInt σ v L) {K : AV → List AB → Prop} (hK : K (.i .i64 (k + L.length)) σ) : CallWp Try.prog n_laws_heldIntS [v, .i .i64 k] σ K :=
  call_rds _ (rds1 h.r) (fun c => [.sl 0 0 L.length (c 0), .i .i64 k]) (fun c => laws_heldIntS0 L k hs hk hrun (c 0)) (fun ν c h => ⟨h.1, .inl rfl, trivial⟩) (fun _ => rfl) rfl hK
theorem len1 (z : List AV) (o : Nat) (a : AV) : (spl z o [a]).length = z.length := by simp [spl]
theorem laws_markIntS_nil {k : Int} {σ : List AB} {K : AV → List AB → Prop} (hK : K (.i .i64 k) σ) : CallWp Try.prog n_laws_markIntS [.sn, .i .i64 k] σ K := by
  refine call0 (r := .i .i64 k) ?_ rfl rfl hK
  refine call_laws_markIntS (by simp) ?_
  simp only [c_laws_markIntS, go_sem, Int.reduceToNat, List.take_nil, Nat.zero_mul, Nat.reduceEqDiff, Nat.reduceAdd, Nat.reduceLT, Nat.reduceLeDiff, Nat.reduceMul, ↓reduceIte, reduceCtorEq]
  refine loop_count 0 (fun m => ⟨[(0, .sn), (1, .i .i64 k), (5, .i .i64 m)], []⟩) (fun m => m = 0) rfl (Wk.keep (by simp [look_cons])) fun m hm hJ => ?_
  subst hJ
  simp only [l0_laws_markIntS, go_sem, Int.reduceToNat, List.take_nil, Nat.zero_mul, Nat.reduceEqDiff, Nat.reduceAdd, Nat.reduceLT, Nat.reduceLeDiff, Nat.reduceMul, ↓reduceIte, reduceCtorEq]
  exact ⟨fun h => absurd h (by simp), fun _ => Fin.plain ⟨rfl, rfl⟩⟩
end Go.Proofs.Ytmphblbpofnpaaa
