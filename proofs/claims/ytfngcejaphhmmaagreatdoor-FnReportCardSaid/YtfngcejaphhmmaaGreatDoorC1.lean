import Derived.Test.YtfngcejaphhmmaaGreatDoorAbsY
import Derived.Test.YtfngcejaphhmmaaGreatDoorLow
import Derived.Test.YtfngcejaphhmmaaGreatDoorMM
namespace Go.Proofs.YtfngcejaphhmmaaGreatDoor
open Go.Abs Go.Ds
set_option linter.unusedSimpArgs false
set_option linter.unusedVariables false
def encTask : Enc Task := ⟨fun t => [.i .i64 t.C, .i .i64 t.D, .i .i64 t.P], 3, fun _ => rfl, fun _ => rfl⟩
theorem lenT (L : List Task) : (encTask.row L).length = L.length * 3 := encTask.row_length L
theorem rdT0 {L : List Task} {k : Nat} (h : k < L.length) : rd (encTask.row L) (k * 3) = .i .i64 (L[k]'h).C := encTask.rd L k 0 h (by decide)
theorem rdT1 {L : List Task} {k : Nat} (h : k < L.length) : rd (encTask.row L) (k * 3 + 1) = .i .i64 (L[k]'h).D := encTask.rd L k 1 h (by decide)
theorem rdT2 {L : List Task} {k : Nat} (h : k < L.length) : rd (encTask.row L) (k * 3 + 2) = .i .i64 (L[k]'h).P := encTask.rd L k 2 h (by decide)
theorem winT {L : List Task} {k : Nat} (h : k < L.length) : win (encTask.row L) (k * 3) 3 = encTask.f (L[k]'h) := encTask.win L k h
theorem takeT (L : List Task) : (encTask.row L).take (L.length * 3) = encTask.row L := List.take_of_length_le (by rw [lenT]; omega)
theorem appT (L : List Task) (a b c : Int) : encTask.row L ++ [.i .i64 a, .i .i64 b, .i .i64 c] = encTask.row (L ++ [⟨a, b, c⟩]) := by rw [encTask.row_append, encTask.row_one]; rfl
theorem lenI (L : List Int) : (encInt.row L).length = L.length := by simpa [encInt] using encInt.row_length L
theorem rdI {L : List Int} {k : Nat} (h : k < L.length) : rd (encInt.row L) k = .i .i64 (L[k]'h) := by simpa [encInt, rd] using encInt.rd L k 0 h (by decide)
theorem splI {L : List Int} {k : Nat} (h : k < L.length) (a : Int) : spl (encInt.row L) k [.i .i64 a] = encInt.row (L.set k a) := by simpa [encInt] using encInt.set L k h a
theorem splT {L : List Task} {k : Nat} (h : k < L.length) (a b c : Int) : spl (encTask.row L) (k * 3) [.i .i64 a, .i .i64 b, .i .i64 c] = encTask.row (L.set k ⟨a, b, c⟩) := encTask.set L k h ⟨a, b, c⟩
theorem winI (L : List Int) : win (encInt.row L) 0 L.length = encInt.row L := by rw [← lenI L]; simp [win]
theorem takeI (L : List Int) : (encInt.row L).take L.length = encInt.row L := List.take_of_length_le (by rw [lenI]; omega)
theorem appI (L : List Int) (a : Int) : encInt.row L ++ [.i .i64 a] = encInt.row (L ++ [a]) := by rw [encInt.row_append, encInt.row_one]; rfl
theorem impl_in0 (n lo hi : Int) : CallWp Tryz.prog n_impl_in [.i .i64 n, .i .i64 lo, .i .i64 hi] [] (fun x σ => x = .b (decide (lo ≤ n ∧ n ≤ hi)) ∧ σ = []) := by
  refine call_impl_in (by simp) ?_
  simp only [c_impl_in, go_sem, Int.reduceToNat, List.take_nil, Nat.zero_mul, Nat.reduceEqDiff, Nat.reduceAdd, Nat.reduceLT, Nat.reduceLeDiff, Nat.reduceMul, ↓reduceIte, reduceCtorEq]
  refine ⟨fun h => Fin.plain ⟨by simp [h], rfl⟩, fun h => Fin.plain ⟨by simp [h], rfl⟩⟩
theorem impl_in_ (n lo hi : Int) {σ : List AB} {K : AV → List AB → Prop} (hk : K (.b (decide (lo ≤ n ∧ n ≤ hi))) σ) : CallWp Tryz.prog n_impl_in [.i .i64 n, .i .i64 lo, .i .i64 hi] σ K :=
  call0 (impl_in0 n lo hi) rfl rfl hk
theorem spec_l1In0 (n lo hi : Int) : CallWp Tryz.prog n_spec_l1In [.i .i64 n, .i .i64 lo, .i .i64 hi] [] (fun x σ => x = .b (decide (lo ≤ n ∧ n ≤ hi)) ∧ σ = []) := by
  refine call_spec_l1In (by simp) ?_
  simp only [c_spec_l1In, go_sem, Int.reduceToNat, List.take_nil, Nat.zero_mul, Nat.reduceEqDiff, Nat.reduceAdd, Nat.reduceLT, Nat.reduceLeDiff, Nat.reduceMul, ↓reduceIte, reduceCtorEq]
  refine ⟨fun h => Fin.plain ⟨by simp [h], rfl⟩, fun h => Fin.plain ⟨by simp [h], rfl⟩⟩
theorem spec_l1In_ (n lo hi : Int) {σ : List AB} {K : AV → List AB → Prop} (hk : K (.b (decide (lo ≤ n ∧ n ≤ hi))) σ) : CallWp Tryz.prog n_spec_l1In [.i .i64 n, .i .i64 lo, .i .i64 hi] σ K :=
  call0 (spec_l1In0 n lo hi) rfl rfl hk
theorem spec_TaskValid0 (t : Task) : CallWp Tryz.prog n_spec_TaskValid [.agg (encTask.f t)] [] (fun x σ => x = .b (decide t.ok) ∧ σ = []) := by
  refine call_spec_TaskValid (by simp) ?_
  simp only [c_spec_TaskValid, encTask, go_sem, Int.reduceToNat, List.take_nil, Nat.zero_mul, Nat.reduceEqDiff, Nat.reduceAdd, Nat.reduceLT, Nat.reduceLeDiff, Nat.reduceMul, ↓reduceIte, reduceCtorEq]
  refine spec_l1In_ _ _ _ ?_
  simp only [go_sem, Int.reduceToNat, List.take_nil, Nat.zero_mul, Nat.reduceEqDiff, Nat.reduceAdd, Nat.reduceLT, Nat.reduceLeDiff, Nat.reduceMul, ↓reduceIte, reduceCtorEq]
  refine ⟨fun h1 => spec_l1In_ _ _ _ ?_, fun h1 => Fin.same ?_⟩
  · simp only [go_sem, Int.reduceToNat, List.take_nil, Nat.zero_mul, Nat.reduceEqDiff, Nat.reduceAdd, Nat.reduceLT, Nat.reduceLeDiff, Nat.reduceMul, ↓reduceIte, reduceCtorEq]
    refine ⟨fun h2 => spec_l1In_ _ _ _ ?_, fun h2 => Fin.same ?_⟩
    · simp only [go_sem, Int.reduceToNat, List.take_nil, Nat.zero_mul, Nat.reduceEqDiff, Nat.reduceAdd, Nat.reduceLT, Nat.reduceLeDiff, Nat.reduceMul, ↓reduceIte, reduceCtorEq]
      exact Fin.same (by unfold Task.ok; congr 1; apply decide_eq_decide.2; omega)
    · unfold Task.ok; congr 1; symm; apply decide_eq_false; omega
  · unfold Task.ok; congr 1; symm; apply decide_eq_false; omega
theorem spec_TaskValid_ (t : Task) {σ : List AB} {K : AV → List AB → Prop} (hk : K (.b (decide t.ok)) σ) : CallWp Tryz.prog n_spec_TaskValid [.agg (encTask.f t)] σ K :=
  call0 (spec_TaskValid0 t) rfl rfl hk
theorem impl_TaskValid0 (t : Task) : CallWp Tryz.prog n_impl_TaskValid [.agg (encTask.f t)] [] (fun x σ => x = .b (decide t.ok) ∧ σ = []) := by
  refine call_impl_TaskValid (by simp) ?_
  simp only [c_impl_TaskValid, encTask, go_sem, Int.reduceToNat, List.take_nil, Nat.zero_mul, Nat.reduceEqDiff, Nat.reduceAdd, Nat.reduceLT, Nat.reduceLeDiff, Nat.reduceMul, ↓reduceIte, reduceCtorEq]
  refine impl_in_ _ _ _ ?_
  simp only [go_sem, Int.reduceToNat, List.take_nil, Nat.zero_mul, Nat.reduceEqDiff, Nat.reduceAdd, Nat.reduceLT, Nat.reduceLeDiff, Nat.reduceMul, ↓reduceIte, reduceCtorEq]
  refine ⟨fun h1 => impl_in_ _ _ _ ?_, fun h1 => Fin.same ?_⟩
  · simp only [go_sem, Int.reduceToNat, List.take_nil, Nat.zero_mul, Nat.reduceEqDiff, Nat.reduceAdd, Nat.reduceLT, Nat.reduceLeDiff, Nat.reduceMul, ↓reduceIte, reduceCtorEq]
    refine ⟨fun h2 => Fin.same ?_, fun h2 => Fin.same ?_⟩
    · unfold Task.ok; congr 1; apply decide_eq_decide.2; omega
    · unfold Task.ok; congr 1; symm; apply decide_eq_false; omega
  · unfold Task.ok; congr 1; symm; apply decide_eq_false; omega
theorem impl_TaskValid_ (t : Task) {σ : List AB} {K : AV → List AB → Prop} (hk : K (.b (decide t.ok)) σ) : CallWp Tryz.prog n_impl_TaskValid [.agg (encTask.f t)] σ K :=
  call0 (impl_TaskValid0 t) rfl rfl hk
theorem spec_SetValid0 (L : List Task) (hs : L.length ≤ 1099511627776) (c : Nat) : CallWp Tryz.prog n_spec_SetValid [.sl 0 0 L.length c] [.ro (encTask.row L)] (fun x σ => x = .b (decide (setOk L)) ∧ σ = [.ro (encTask.row L)]) := by
  refine call_spec_SetValid (by simp) ?_
  simp only [c_spec_SetValid, go_sem, Int.reduceToNat, List.take_nil, Nat.zero_mul, Nat.reduceEqDiff, Nat.reduceAdd, Nat.reduceLT, Nat.reduceLeDiff, Nat.reduceMul, ↓reduceIte, reduceCtorEq]
  refine loop_count L.length (fun k => ⟨[(0, .sl 0 0 L.length c), (3, .i .i64 k)], [.ro (encTask.row L)]⟩) (fun k => ∀ x ∈ L.take k, x.ok) (by simp) (Wk.pick [0]) fun k hk hJ => ?_
  simp only [l0_spec_SetValid, go_sem, Int.reduceToNat, List.take_nil, Nat.zero_mul, Nat.reduceEqDiff, Nat.reduceAdd, Nat.reduceLT, Nat.reduceLeDiff, Nat.reduceMul, ↓reduceIte, reduceCtorEq]
  refine ⟨fun h => ⟨by omega, ?_, ?_⟩, fun h => Fin.same ?_⟩
  · rw [encTask.row_length]; simp only [encTask]; omega
  · rw [show win (encTask.row L) (k * 3) 3 = encTask.f L[k] from encTask.win L k h]
    refine spec_TaskValid_ _ ?_
    simp only [go_sem, Int.reduceToNat, List.take_nil, Nat.zero_mul, Nat.reduceEqDiff, Nat.reduceAdd, Nat.reduceLT, Nat.reduceLeDiff, Nat.reduceMul, ↓reduceIte, reduceCtorEq]
    refine ⟨fun h1 => Fin.same ?_, fun h1 => ⟨by omega, ⟨h, (all_take_succ h).2 ⟨hJ, h1⟩⟩, Wk.pick [0]⟩⟩
    congr 1; symm; apply decide_eq_false
    exact fun hs => h1 (hs.2 _ (List.getElem_mem _))
  · have e : k = L.length := by omega
    subst e
    rw [List.take_length] at hJ
    congr 1; apply decide_eq_decide.2
    exact ⟨fun h => ⟨by omega, hJ⟩, fun h => by have := h.1; omega⟩
theorem spec_SetValid_ {L : List Task} (hs : L.length ≤ 1099511627776) {v : AV} {σ : List AB} (h : Rd encTask σ v L) {K : AV → List AB → Prop} (hk : K (.b (decide (setOk L))) σ) : CallWp Tryz.prog n_spec_SetValid [v] σ K :=
  call_rds _ (rds1 h.r) (fun c => [.sl 0 0 L.length (c 0)]) (fun c => spec_SetValid0 L hs (c 0)) (fun ν c h => ⟨h.1, trivial⟩) (fun _ => rfl) rfl hk
theorem impl_SetValid_1_ (t : Task) {σ : List AB} {K : AV → List AB → Prop} (hk : K (.b (!decide t.ok)) σ) : CallWp Tryz.prog n_impl_SetValid_1 [.agg (encTask.f t)] σ K := by
  refine call0 (r := .b (!decide t.ok)) ?_ rfl rfl hk
  refine call_impl_SetValid_1 (by simp) ?_
  simp only [c_impl_SetValid_1, encTask, go_sem, Int.reduceToNat, List.take_nil, Nat.zero_mul, Nat.reduceEqDiff, Nat.reduceAdd, Nat.reduceLT, Nat.reduceLeDiff, Nat.reduceMul, ↓reduceIte, reduceCtorEq]
  refine impl_TaskValid_ _ ?_
  simp only [go_sem, Int.reduceToNat, List.take_nil, Nat.zero_mul, Nat.reduceEqDiff, Nat.reduceAdd, Nat.reduceLT, Nat.reduceLeDiff, Nat.reduceMul, ↓reduceIte, reduceCtorEq]
  exact Fin.same rfl
section
variable {f : Nat} {first caps : List (Nat × Nat)} {σ : List AB} {v : AV} {L : List Task} {K : AV → List AB → Prop}
theorem slices_IndexFunc_impl_Task_ (hs : L.length ≤ 1099511627776) (h : Rd encTask σ v L) (p : Task → Bool) (hp : ∀ t ∈ L, ∀ K : AV → List AB → Prop, K (.b (p t)) σ → CallWp Tryz.prog f (pAV first ++ [.agg (encTask.f t)] ++ pAV caps) σ K)
    (hk : K (.i .i64 (idxF p L)) σ) : CallWp Tryz.prog n_slices_IndexFunc_impl_Task [v, .fn f first caps] σ K := by
  refine call_slices_IndexFunc_impl_Task (by simp) ?_
  rcases h with ⟨n, o, cap, cs, rfl, hn, hc, hle, hw⟩ | ⟨rfl, rfl, h0⟩
  · simp only [c_slices_IndexFunc_impl_Task, go_sem, Int.reduceToNat, List.take_nil, Nat.zero_mul, Nat.reduceEqDiff, Nat.reduceAdd, Nat.reduceLT, Nat.reduceLeDiff, Nat.reduceMul, ↓reduceIte, reduceCtorEq]
    refine loop_count L.length (fun k => ⟨[(0, .sl n o L.length cap), (1, .fn f first caps), (7, .i .i64 L.length), (8, .i .i64 k)], σ⟩) (fun k => ∀ x ∈ L.take k, p x = false) (by simp) (Wk.keep (by simp [look_cons])) fun k hkl hJ => ?_
    simp only [l0_slices_IndexFunc_impl_Task, go_sem, Int.reduceToNat, List.take_nil, Nat.zero_mul, Nat.reduceEqDiff, Nat.reduceAdd, Nat.reduceLT, Nat.reduceLeDiff, Nat.reduceMul, ↓reduceIte, reduceCtorEq]
    refine ⟨fun h => ⟨by omega, ?_⟩, fun h => ?_⟩
    · obtain ⟨h1, h2⟩ := win_at hle hw k h
      simp only [encTask] at h1 h2
      rw [onC_of hc]
      refine ⟨h1, ?_⟩
      rw [h2]
      refine hp _ (List.getElem_mem _) _ ?_
      simp only [go_sem, Int.reduceToNat, List.take_nil, Nat.zero_mul, Nat.reduceEqDiff, Nat.reduceAdd, Nat.reduceLT, Nat.reduceLeDiff, Nat.reduceMul, ↓reduceIte, reduceCtorEq]
      refine bc_of (fun h3 => Fin.plain ?_) fun h3 => ⟨by omega, ⟨h, (all_take_succ h).2 ⟨hJ, h3⟩⟩, Wk.keep (by simp [look_cons])⟩
      rw [← idxF_found h hJ h3]; exact hk
    · have e : k = L.length := by omega
      subst e
      rw [List.take_length] at hJ
      refine Fin.plain ?_
      rw [← idxF_none hJ]; exact hk
  · simp only [c_slices_IndexFunc_impl_Task, go_sem, Int.reduceToNat, List.take_nil, Nat.zero_mul, Nat.reduceEqDiff, Nat.reduceAdd, Nat.reduceLT, Nat.reduceLeDiff, Nat.reduceMul, ↓reduceIte, reduceCtorEq]
    refine loop_count 0 (fun k => ⟨[(0, .sn), (1, .fn f first caps), (7, .i .i64 0), (8, .i .i64 k)], σ⟩) (fun k => k = 0) rfl (Wk.keep (by simp [look_cons])) fun k hkl hJ => ?_
    subst hJ
    simp only [l0_slices_IndexFunc_impl_Task, go_sem, Int.reduceToNat, List.take_nil, Nat.zero_mul, Nat.reduceEqDiff, Nat.reduceAdd, Nat.reduceLT, Nat.reduceLeDiff, Nat.reduceMul, ↓reduceIte, reduceCtorEq]
    refine ⟨fun h => ?_, fun h => Fin.plain ?_⟩
    · exact absurd h (by simp)
    · rw [← idxF_none (p := p) (L := []) (by simp)]; exact hk
theorem slices_ContainsFunc_impl_Task_ (hs : L.length ≤ 1099511627776) (h : Rd encTask σ v L) (p : Task → Bool) (hp : ∀ t ∈ L, ∀ K : AV → List AB → Prop, K (.b (p t)) σ → CallWp Tryz.prog f (pAV first ++ [.agg (encTask.f t)] ++ pAV caps) σ K)
    (hk : K (.b (decide (∃ x ∈ L, p x = true))) σ) : CallWp Tryz.prog n_slices_ContainsFunc_impl_Task [v, .fn f first caps] σ K := by
  refine call_slices_ContainsFunc_impl_Task (by simp) ?_
  simp only [c_slices_ContainsFunc_impl_Task, h.data, go_sem, Int.reduceToNat, List.take_nil, Nat.zero_mul, Nat.reduceEqDiff, Nat.reduceAdd, Nat.reduceLT, Nat.reduceLeDiff, Nat.reduceMul, ↓reduceIte, reduceCtorEq]
  refine slices_IndexFunc_impl_Task_ hs h p hp ?_
  simp only [go_sem, Int.reduceToNat, List.take_nil, Nat.zero_mul, Nat.reduceEqDiff, Nat.reduceAdd, Nat.reduceLT, Nat.reduceLeDiff, Nat.reduceMul, ↓reduceIte, reduceCtorEq]
  refine Fin.plain ?_
  rw [decide_eq_decide.2 idxF_any]; exact hk
end
theorem impl_SetValid0 (L : List Task) (hs : L.length ≤ 1099511627776) (c : Nat) : CallWp Tryz.prog n_impl_SetValid [.sl 0 0 L.length c] [.ro (encTask.row L)] (fun x σ => x = .b (decide (setOk L)) ∧ σ = [.ro (encTask.row L)]) := by
  refine call_impl_SetValid (by simp) ?_
  simp only [c_impl_SetValid, go_sem, Int.reduceToNat, List.take_nil, Nat.zero_mul, Nat.reduceEqDiff, Nat.reduceAdd, Nat.reduceLT, Nat.reduceLeDiff, Nat.reduceMul, ↓reduceIte, reduceCtorEq]
  refine ⟨fun h => ?_, fun h => Fin.same ?_⟩
  · refine slices_ContainsFunc_impl_Task_ hs (Rd.own rfl) (fun t => !decide t.ok) (fun t _ K hk => impl_SetValid_1_ t hk) ?_
    simp only [go_sem, Int.reduceToNat, List.take_nil, Nat.zero_mul, Nat.reduceEqDiff, Nat.reduceAdd, Nat.reduceLT, Nat.reduceLeDiff, Nat.reduceMul, ↓reduceIte, reduceCtorEq]
    refine Fin.same ?_
    congr 1; apply decide_eq_decide.2
    simp only [setOk, not_exists, not_and, decide_eq_true_eq, Decidable.not_not]
    exact ⟨fun h1 => ⟨by omega, h1⟩, fun h1 => h1.2⟩
  · congr 1; symm; apply decide_eq_false
    intro h1; have := h1.1; omega
theorem impl_SetValid_ {L : List Task} (hs : L.length ≤ 1099511627776) {v : AV} {σ : List AB} (h : Rd encTask σ v L) {K : AV → List AB → Prop} (hk : K (.b (decide (setOk L))) σ) : CallWp Tryz.prog n_impl_SetValid [v] σ K :=
  call_rds _ (rds1 h.r) (fun c => [.sl 0 0 L.length (c 0)]) (fun c => impl_SetValid0 L hs (c 0)) (fun ν c h => ⟨h.1, trivial⟩) (fun _ => rfl) rfl hk
end Go.Proofs.YtfngcejaphhmmaaGreatDoor
