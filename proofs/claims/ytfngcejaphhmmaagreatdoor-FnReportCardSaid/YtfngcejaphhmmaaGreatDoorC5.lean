import Derived.Test.YtfngcejaphhmmaaGreatDoorC4
namespace Go.Proofs.YtfngcejaphhmmaaGreatDoor
open Go.Abs Go.Ds
set_option linter.unusedSimpArgs false
set_option linter.unusedVariables false
set_option maxRecDepth 20000
theorem impl_ceil_ (a b : Int) (ha : 0 ≤ a ∧ a ≤ 1000000) (hb : 1 ≤ b ∧ b ≤ 1000000) {σ : List AB} {K : AV → List AB → Prop} (hk : K (.i .i64 ((a + b - 1) / b)) σ) : CallWp Tryz.prog n_impl_ceil [.i .i64 a, .i .i64 b] σ K := by
  refine call0 (r := .i .i64 ((a + b - 1) / b)) ?_ rfl rfl hk
  refine call_impl_ceil (by simp) ?_
  have e : (a + b - 1).tdiv b = (a + b - 1) / b := Int.tdiv_eq_ediv_of_nonneg (by omega)
  have q1 : 0 ≤ (a + b - 1) / b := Int.ediv_nonneg (by omega) (by omega)
  have q2 : (a + b - 1) / b ≤ a + b - 1 := Int.ediv_le_self _ (by omega)
  simp only [c_impl_ceil, e, go_sem, Int.reduceToNat, List.take_nil, Nat.zero_mul, Nat.reduceEqDiff, Nat.reduceAdd, Nat.reduceLT, Nat.reduceLeDiff, Nat.reduceMul, ↓reduceIte, reduceCtorEq]
  exact ⟨by omega, by omega, by omega, by omega, Fin.same rfl⟩
theorem impl_response0 (S : List Task) (J A : List Int) (i : Int) (h : Inst S J A i) (c c' c3 : Nat) : CallWp Tryz.prog n_impl_response [.sl 0 0 S.length c, .sl 1 0 J.length c', .i .i64 i, .sl 2 0 A.length c3] [.ro (encTask.row S), .ro (encInt.row J), .ro (encInt.row A)]
    (fun x σ => x = .i .i64 (respOf S J A i) ∧ σ = [.ro (encTask.row S), .ro (encInt.row J), .ro (encInt.row A)]) := by
  have hi := h.hi
  have hl := h.hl
  have hjl := h.hJ.2.1
  have hiS : i.toNat < S.length := by omega
  have hiJ : i.toNat < J.length := by omega
  have t1 := gT_ok h.hS h.hi.1 h.hi.2
  have j1 := gI_ok h.hJ h.hi.1 h.hi.2
  unfold Task.ok at t1
  refine call_impl_response (by simp) ?_
  simp only [c_impl_response, hiS, go_sem, Int.reduceToNat, List.take_nil, Nat.zero_mul, Nat.reduceEqDiff, Nat.reduceAdd, Nat.reduceLT, Nat.reduceLeDiff, Nat.reduceMul, ↓reduceIte, reduceCtorEq, lenT, rdT0, rdT1, rdT2, winT, takeT, appT, splT, splI, winI, lenI, rdI, takeI, appI, ← gT_eq hiS]
  refine ⟨by omega, by omega, ?_⟩
  refine loop_intro (fun r : Int => ⟨[(0, .sl 0 0 S.length c), (1, .sl 1 0 J.length c'), (2, .i .i64 i), (3, .sl 2 0 A.length c3), (9, .i .i64 r)], [.ro (encTask.row S), .ro (encInt.row J), .ro (encInt.row A)]⟩) (Step S J A i) (fun r => (6001 - r).toNat) (gT S i).C (Step.first h) (Wk.pick [0, 1, 2]) fun r hs => ?_
  have hr6 := hs.2.1
  have hr0 := hs.1
  simp only [l1_impl_response, hiS, hiJ, go_sem, Int.reduceToNat, List.take_nil, Nat.zero_mul, Nat.reduceEqDiff, Nat.reduceAdd, Nat.reduceLT, Nat.reduceLeDiff, Nat.reduceMul, ↓reduceIte, reduceCtorEq, lenT, rdT0, rdT1, rdT2, winT, takeT, appT, splT, splI, winI, lenI, rdI, takeI, appI, ← gT_eq hiS, ← gI_eq hiJ]
  refine ⟨by omega, by omega, by omega, by omega, fun hle => ?_, fun hle => Fin.same (by rw [hs.stop hle])⟩
  obtain ⟨hr, hst, hgo⟩ := hs.go h hle
  refine ⟨by omega, by omega, ?_⟩
  refine loop_count A.length (fun k => ⟨[(0, .sl 0 0 S.length c), (1, .sl 1 0 J.length c'), (2, .i .i64 i), (3, .sl 2 0 A.length c3), (9, .i .i64 r), (10, .i .i64 (nxt S J (A.take k) (gT S i).C r)), (35, .sl 2 0 A.length c3), (36, .i .i64 A.length), (37, .i .i64 k)], [.ro (encTask.row S), .ro (encInt.row J), .ro (encInt.row A)]⟩) (fun k => True) trivial (Wk.pick [0, 1, 2] (by simp [seesT, belowT, below1, below, sees, ren, ren1, renC, rnp, nat2, look_cons, nxt_nil])) fun k hk _ => ?_
  simp only [l0_impl_response, go_sem, Int.reduceToNat, List.take_nil, Nat.zero_mul, Nat.reduceEqDiff, Nat.reduceAdd, Nat.reduceLT, Nat.reduceLeDiff, Nat.reduceMul, ↓reduceIte, reduceCtorEq, lenT, rdT0, rdT1, rdT2, winT, takeT, appT, splT, splI, winI, lenI, rdI, takeI, appI]
  refine ⟨fun hlt => ?_, fun hge => ?_⟩
  · have hb := nxt_bounds (c := 0) h.hS h.hJ hr.1 (by omega) (A.take k) (gT S i).C fun x hx => h.hA x (List.mem_of_mem_take hx)
    rw [List.length_take] at hb
    have hak := h.hA _ (List.getElem_mem hlt)
    have aS : A[k].toNat < S.length := by omega
    have aJ : A[k].toNat < J.length := by omega
    have t2 := gT_ok h.hS hak.1 hak.2
    have j2 := gI_ok h.hJ hak.1 hak.2
    have ab := ask_bounds (r := r) h.hS h.hJ hak.1 hak.2 hr.1 (by omega)
    unfold Task.ok at t2
    have e2 : nxt S J (A.take (k + 1)) (gT S i).C r = nxt S J (A.take k) (gT S i).C r + Go.Ds.ask S J r A[k] := by rw [List.take_succ_eq_append_getElem hlt, nxt_append]; rfl
    unfold Go.Ds.ask at ab e2
    simp only [hlt, aS, aJ, go_sem, Int.reduceToNat, List.take_nil, Nat.zero_mul, Nat.reduceEqDiff, Nat.reduceAdd, Nat.reduceLT, Nat.reduceLeDiff, Nat.reduceMul, ↓reduceIte, reduceCtorEq, lenT, rdT0, rdT1, rdT2, winT, takeT, appT, splT, splI, winI, lenI, rdI, takeI, appI, ← gT_eq aS, ← gI_eq aJ]
    refine ⟨by omega, by omega, by omega, by omega, onCall.by (impl_ceil_ _ _ (by omega) (by omega) ⟨rfl, rfl⟩) ?_⟩
    simp only [hlt, aS, aJ, go_sem, Int.reduceToNat, List.take_nil, Nat.zero_mul, Nat.reduceEqDiff, Nat.reduceAdd, Nat.reduceLT, Nat.reduceLeDiff, Nat.reduceMul, ↓reduceIte, reduceCtorEq, lenT, rdT0, rdT1, rdT2, winT, takeT, appT, splT, splI, winI, lenI, rdI, takeI, appI, ← gT_eq aS, ← gI_eq aJ]
    refine ⟨by omega, by omega, by omega, by omega, by omega, ?_⟩
    rw [e2]
    exact Wk.pick [0, 1, 2]
  · have ek : k = A.length := by omega
    subst ek
    simp only [List.take_length, hiJ, go_sem, Int.reduceToNat, List.take_nil, Nat.zero_mul, Nat.reduceEqDiff, Nat.reduceAdd, Nat.reduceLT, Nat.reduceLeDiff, Nat.reduceMul, ↓reduceIte, reduceCtorEq, lenT, rdT0, rdT1, rdT2, winT, takeT, appT, splT, splI, winI, lenI, rdI, takeI, appI, ← gI_eq hiJ]
    refine ⟨fun e => ⟨by omega, by omega, Fin.same (by rw [hst e])⟩, fun e => ⟨nxt S J A (gT S i).C r, ⟨(hgo e).1, ?_⟩, Wk.pick [0, 1, 2]⟩⟩
    have := (hgo e).1.2.1
    have := (hgo e).2
    omega
section
variable {S : List Task} {J A : List Int} {i : Int} {v u z : AV} {σ : List AB} {K : AV → List AB → Prop}
theorem impl_response_ (h : Inst S J A i) (h1 : Rd encTask σ v S) (h2 : Rd encInt σ u J) (h3 : Rd encInt σ z A) (hk : K (.i .i64 (respOf S J A i)) σ) : CallWp Tryz.prog n_impl_response [v, u, .i .i64 i, z] σ K :=
  call_rds _ (rds_cons h1.r (rds_cons h2.r (rds1 h3.r))) (fun c => [.sl 0 0 S.length (c 0), .sl 1 0 J.length (c 1), .i .i64 i, .sl 2 0 A.length (c 2)]) (fun c => impl_response0 S J A i h (c 0) (c 1) (c 2)) (fun ν c h => ⟨h.1, h.2.1, .inl rfl, h.2.2.1, trivial⟩) (fun _ => rfl) rfl hk
end
end Go.Proofs.YtfngcejaphhmmaaGreatDoor
