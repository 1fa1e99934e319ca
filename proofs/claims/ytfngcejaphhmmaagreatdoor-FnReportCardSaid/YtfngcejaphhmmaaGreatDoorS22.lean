import Derived.Test.YtfngcejaphhmmaaGreatDoorS20
namespace Go.Proofs.YtfngcejaphhmmaaGreatDoor
open Go.Abs Go.Ds
set_option linter.unusedSimpArgs false
set_option linter.unusedVariables false
set_option maxRecDepth 20000
set_option maxHeartbeats 1000000
theorem spec_l4Response0 (S : List Task) (A : List Int) (i : Int) (h : Inst S (List.replicate S.length 0) A i) (c c3 : Nat) : CallWp Tryz.prog n_spec_l4Response [.sl 0 0 S.length c, .sl 1 0 A.length c3, .i .i64 i] [.ro (encTask.row S), .ro (encInt.row A)]
    (fun x σ => x = .i .i64 (respOf S (List.replicate S.length 0) A i) ∧ σ = [.ro (encTask.row S), .ro (encInt.row A)]) := by
  have hi := h.hi
  have hl := h.hl
  have hiS : i.toNat < S.length := by omega
  have t1 := gT_ok h.hS h.hi.1 h.hi.2
  have hz := gI_zeros S.length i
  unfold Task.ok at t1
  refine call_spec_l4Response (by simp) ?_
  simp only [c_spec_l4Response, hiS, go_sem, Int.reduceToNat, List.take_nil, Nat.zero_mul, Nat.reduceEqDiff, Nat.reduceAdd, Nat.reduceLT, Nat.reduceLeDiff, Nat.reduceMul, ↓reduceIte, reduceCtorEq, lenT, rdT0, rdT1, rdT2, winT, takeT, appT, splT, splI, winI, lenI, rdI, takeI, appI, ← gT_eq hiS]
  refine ⟨by omega, by omega, ?_⟩
  refine loop_intro (fun r : Int => ⟨[(0, .sl 0 0 S.length c), (1, .sl 1 0 A.length c3), (2, .i .i64 i), (7, .i .i64 r)], [.ro (encTask.row S), .ro (encInt.row A)]⟩) (Step S (List.replicate S.length 0) A i) (fun r => (6001 - r).toNat) (gT S i).C (Step.first h) (Wk.pick [0, 1]) fun r hs => ?_
  have hr6 := hs.2.1
  have hr0 := hs.1
  have hgo := fun hle => hs.go h hle
  have hstop := fun hle => hs.stop (i := i) hle
  rw [hz, Int.add_zero] at hgo hstop
  simp only [l1_spec_l4Response, hiS, go_sem, Int.reduceToNat, List.take_nil, Nat.zero_mul, Nat.reduceEqDiff, Nat.reduceAdd, Nat.reduceLT, Nat.reduceLeDiff, Nat.reduceMul, ↓reduceIte, reduceCtorEq, lenT, rdT0, rdT1, rdT2, winT, takeT, appT, splT, splI, winI, lenI, rdI, takeI, appI, ← gT_eq hiS]
  refine ⟨by omega, by omega, fun hle => ?_, fun hle => Fin.same (by rw [hstop hle])⟩
  obtain ⟨hr, hst, hgo⟩ := hgo hle
  refine ⟨by omega, by omega, ?_⟩
  refine loop_count A.length (fun k => ⟨[(0, .sl 0 0 S.length c), (1, .sl 1 0 A.length c3), (2, .i .i64 i), (7, .i .i64 r), (8, .i .i64 (nxt S (List.replicate S.length 0) (A.take k) (gT S i).C r)), (9, .i .i64 k)], [.ro (encTask.row S), .ro (encInt.row A)]⟩) (fun k => True) trivial (Wk.pick [0, 1] (by simp [seesT, belowT, below1, below, sees, ren, ren1, renC, rnp, nat2, look_cons, nxt_nil])) fun k hk _ => ?_
  simp only [l0_spec_l4Response, go_sem, Int.reduceToNat, List.take_nil, Nat.zero_mul, Nat.reduceEqDiff, Nat.reduceAdd, Nat.reduceLT, Nat.reduceLeDiff, Nat.reduceMul, ↓reduceIte, reduceCtorEq, lenT, rdT0, rdT1, rdT2, winT, takeT, appT, splT, splI, winI, lenI, rdI, takeI, appI]
  refine ⟨fun hlt => ?_, fun hge => ?_⟩
  · have hb := nxt_bounds (c := 0) h.hS h.hJ hr.1 (by omega) (A.take k) (gT S i).C fun x hx => h.hA x (List.mem_of_mem_take hx)
    rw [List.length_take] at hb
    have hak := h.hA _ (List.getElem_mem hlt)
    have aS : A[k].toNat < S.length := by omega
    have t2 := gT_ok h.hS hak.1 hak.2
    have ab := ask_bounds (r := r) h.hS h.hJ hak.1 hak.2 hr.1 (by omega)
    unfold Task.ok at t2
    have e2 : nxt S (List.replicate S.length 0) (A.take (k + 1)) (gT S i).C r = nxt S (List.replicate S.length 0) (A.take k) (gT S i).C r + Go.Ds.ask S (List.replicate S.length 0) r A[k] := by rw [List.take_succ_eq_append_getElem hlt, nxt_append]; rfl
    unfold Go.Ds.ask at ab e2
    rw [gI_zeros, Int.add_zero] at ab e2
    have e3 : (r + (gT S A[k]).P - 1).tdiv (gT S A[k]).P = (r + (gT S A[k]).P - 1) / (gT S A[k]).P := Int.tdiv_eq_ediv_of_nonneg (by omega)
    have e4 : encTask.f (gT S A[k]) = [.i .i64 (gT S A[k]).C, .i .i64 (gT S A[k]).D, .i .i64 (gT S A[k]).P] := rfl
    simp only [hlt, aS, e3, e4, go_sem, Int.reduceToNat, List.take_nil, Nat.zero_mul, Nat.reduceEqDiff, Nat.reduceAdd, Nat.reduceLT, Nat.reduceLeDiff, Nat.reduceMul, ↓reduceIte, reduceCtorEq, lenT, rdT0, rdT1, rdT2, winT, takeT, appT, splT, splI, winI, lenI, rdI, takeI, appI, ← gT_eq aS]
    refine ⟨by omega, by omega, by omega, by omega, by omega, by omega, by omega, by omega, by omega, ?_⟩
    rw [e2]
    exact Wk.pick [0, 1]
  · have ek : k = A.length := by omega
    subst ek
    simp only [List.take_length, go_sem, Int.reduceToNat, List.take_nil, Nat.zero_mul, Nat.reduceEqDiff, Nat.reduceAdd, Nat.reduceLT, Nat.reduceLeDiff, Nat.reduceMul, ↓reduceIte, reduceCtorEq, lenT, rdT0, rdT1, rdT2, winT, takeT, appT, splT, splI, winI, lenI, rdI, takeI, appI]
    refine ⟨fun e => Fin.same (by rw [hst e]), fun e => ⟨nxt S (List.replicate S.length 0) A (gT S i).C r, ⟨(hgo e).1, ?_⟩, Wk.pick [0, 1]⟩⟩
    have := (hgo e).1.2.1
    have := (hgo e).2
    omega
theorem spec_l4Response_ {S : List Task} {A : List Int} {i : Int} {v z : AV} {σ : List AB} {K : AV → List AB → Prop} (h : Inst S (List.replicate S.length 0) A i) (h1 : Rd encTask σ v S) (h3 : Rd encInt σ z A) (hk : K (.i .i64 (respOf S (List.replicate S.length 0) A i)) σ) : CallWp Tryz.prog n_spec_l4Response [v, z, .i .i64 i] σ K :=
  call_rds _ (rds_cons h1.r (rds1 h3.r)) (fun c => [.sl 0 0 S.length (c 0), .sl 1 0 A.length (c 1), .i .i64 i]) (fun c => spec_l4Response0 S A i h (c 0) (c 1)) (fun ν c h => ⟨h.1, h.2.1, .inl rfl, trivial⟩) (fun _ => rfl) rfl hk
theorem spec_ResponseTimes_no (S : List Task) (O : List Int) (hs : S.length ≤ 1099511627776) (ho : O.length ≤ 1099511627776) (h : ¬ ordOk S O) (c c' : Nat) : CallWp Tryz.prog n_spec_ResponseTimes [.sl 0 0 S.length c, .sl 1 0 O.length c'] [.ro (encTask.row S), .ro (encInt.row O)]
    (fun x σ => ∃ cap, x = .sl 2 0 ([] : List Int).length cap ∧ σ = [.ro (encTask.row S), .ro (encInt.row O)] ++ [.rw ty_int (encInt.row []) (cap * 1)]) := by
  refine call_spec_ResponseTimes (by simp) ?_
  simp only [c_spec_ResponseTimes, go_sem, Int.reduceToNat, List.take_nil, Nat.zero_mul, Nat.reduceEqDiff, Nat.reduceAdd, Nat.reduceLT, Nat.reduceLeDiff, Nat.reduceMul, ↓reduceIte, reduceCtorEq]
  refine spec_OrderValid_ hs ho (Rd.own rfl) (Rd.own rfl) ?_
  simp only [go_sem, Int.reduceToNat, List.take_nil, Nat.zero_mul, Nat.reduceEqDiff, Nat.reduceAdd, Nat.reduceLT, Nat.reduceLeDiff, Nat.reduceMul, ↓reduceIte, reduceCtorEq]
  exact ⟨fun h2 => Fin.plain ⟨0, rfl, rfl⟩, fun h2 => absurd h2 h⟩
theorem spec_ResponseTimes_yes (S : List Task) (O : List Int) (hO : ordOk S O) (c c' : Nat) : CallWp Tryz.prog n_spec_ResponseTimes [.sl 0 0 S.length c, .sl 1 0 O.length c'] [.ro (encTask.row S), .ro (encInt.row O)]
    (fun x σ => ∃ cap, x = .sl 2 0 S.length cap ∧ σ = [.ro (encTask.row S), .ro (encInt.row O)] ++ [.rw ty_int (encInt.row (resps S (List.replicate S.length 0) O O.length)) (cap * 1)]) := by
  have hJ := zeros_ok hO.1
  have hl := hO.1.1
  have hol := hO.2.1
  refine call_spec_ResponseTimes (by simp) ?_
  simp only [c_spec_ResponseTimes, go_sem, Int.reduceToNat, List.take_nil, Nat.zero_mul, Nat.reduceEqDiff, Nat.reduceAdd, Nat.reduceLT, Nat.reduceLeDiff, Nat.reduceMul, ↓reduceIte, reduceCtorEq]
  refine spec_OrderValid_ (by omega) (by omega) (Rd.own rfl) (Rd.own rfl) ?_
  simp only [go_sem, Int.reduceToNat, List.take_nil, Nat.zero_mul, Nat.reduceEqDiff, Nat.reduceAdd, Nat.reduceLT, Nat.reduceLeDiff, Nat.reduceMul, ↓reduceIte, reduceCtorEq]
  refine ⟨fun h2 => absurd hO h2, fun h2 => ⟨by omega, ?_⟩⟩
  rw [show rep S.length [AV.i .i64 0] = encInt.row (resps S (List.replicate S.length 0) O 0) from encInt.rep 0 _]
  refine loop_count O.length (fun k => ⟨[(0, .sl 0 0 S.length c), (1, .sl 1 0 O.length c'), (5, .sl 2 0 S.length S.length), (6, .i .i64 k)], [.ro (encTask.row S), .ro (encInt.row O), .rw ty_int (encInt.row (resps S (List.replicate S.length 0) O k)) S.length]⟩) (fun _ => True) trivial (Wk.pick [0, 1, 2]) fun k hk _ => ?_
  simp only [l0_spec_ResponseTimes, go_sem, Int.reduceToNat, List.take_nil, Nat.zero_mul, Nat.reduceEqDiff, Nat.reduceAdd, Nat.reduceLT, Nat.reduceLeDiff, Nat.reduceMul, ↓reduceIte, reduceCtorEq, lenT, rdT0, rdT1, rdT2, winT, takeT, appT, splT, splI, winI, lenI, rdI, takeI, appI]
  refine ⟨fun h => ?_, fun h => ?_⟩
  · have hr := hO.2.2.1 _ (List.getElem_mem h)
    have hi : O[k].toNat < (resps S (List.replicate S.length 0) O k).length := by rw [resps_length]; omega
    simp only [go_sem, Int.reduceToNat, List.take_nil, Nat.zero_mul, Nat.reduceEqDiff, Nat.reduceAdd, Nat.reduceLT, Nat.reduceLeDiff, Nat.reduceMul, ↓reduceIte, reduceCtorEq, lenT, rdT0, rdT1, rdT2, winT, takeT, appT, splT, splI, winI, lenI, rdI, takeI, appI, h]
    first
    | (refine ⟨by omega, onCall.by (spec_l4Response_ (inst_at hJ hO h) (Rd.own rfl) (Rd.first rfl (by omega)) ⟨rfl, rfl⟩) ?_⟩
       simp only [go_sem, Int.reduceToNat, List.take_nil, Nat.zero_mul, Nat.reduceEqDiff, Nat.reduceAdd, Nat.reduceLT, Nat.reduceLeDiff, Nat.reduceMul, ↓reduceIte, reduceCtorEq, lenT, rdT0, rdT1, rdT2, winT, takeT, appT, splT, splI, winI, lenI, rdI, takeI, appI, h, hi, resps_length]
       rw [splI hi, ← resps_next h]
       refine ⟨by omega, by omega, by omega, Wk.pick [0, 1, 2]⟩)
    | (refine ⟨by omega, spec_l4Response_ (inst_at hJ hO h) (Rd.own rfl) (Rd.first rfl (by omega)) ?_⟩
       simp only [not_true_eq_false, not_false_eq_true, decide_true, decide_false, Bool.not_true, Bool.not_false, false_implies, true_implies, and_true, true_and, Bool.false_eq_true, Bool.true_eq_false, implies_true, Bool.not_not, Classical.not_not, go_sem, Int.reduceToNat, List.take_nil, Nat.zero_mul, Nat.reduceEqDiff, Nat.reduceAdd, Nat.reduceLT, Nat.reduceLeDiff, Nat.reduceMul, ↓reduceIte, reduceCtorEq, lenT, rdT0, rdT1, rdT2, winT, takeT, appT, splT, splI, winI, lenI, rdI, takeI, appI, h, hi, resps_length]
       rw [splI hi, ← resps_next h]
       exact ⟨by omega, by omega, by omega, Wk.pick [0, 1, 2]⟩)
  · have e : k = O.length := by omega
    subst e
    exact Fin.plain ⟨S.length, rfl, rfl⟩
theorem spec_ResponseTimes_ {S : List Task} {O : List Int} {v z : AV} {σ : List AB} {K : AV → List AB → Prop} (hs : S.length ≤ 1099511627776) (ho : O.length ≤ 1099511627776) (h1 : Rd encTask σ v S) (h3 : Rd encInt σ z O) (hn : ¬ ordOk S O → ∀ cap, K (.sl σ.length 0 ([] : List Int).length cap) (σ ++ [.rw ty_int (encInt.row []) (cap * 1)]))
    (hy : ordOk S O → ∀ cap, K (.sl σ.length 0 S.length cap) (σ ++ [.rw ty_int (encInt.row (resps S (List.replicate S.length 0) O O.length)) (cap * 1)])) : CallWp Tryz.prog n_spec_ResponseTimes [v, z] σ K := by
  by_cases h : ordOk S O
  · exact call_new _ (rds_cons h1.r (rds1 h3.r)) (fun c => [.sl 0 0 S.length (c 0), .sl 1 0 O.length (c 1)]) (fun c => spec_ResponseTimes_yes S O h (c 0) (c 1)) (fun ν c h => ⟨h.1, h.2.1, trivial⟩) (fun _ => rfl) (encInt.row_flat _) (hy h)
  · exact call_new _ (rds_cons h1.r (rds1 h3.r)) (fun c => [.sl 0 0 S.length (c 0), .sl 1 0 O.length (c 1)]) (fun c => spec_ResponseTimes_no S O hs ho h (c 0) (c 1)) (fun ν c h => ⟨h.1, h.2.1, trivial⟩) (fun _ => rfl) (encInt.row_flat _) (hn h)
end Go.Proofs.YtfngcejaphhmmaaGreatDoor
