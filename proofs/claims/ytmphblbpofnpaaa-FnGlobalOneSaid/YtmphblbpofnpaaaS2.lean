import Derived.Test.YtmphblbpofnpaaaE2
import Derived.Test.YtmphblbpofnpaaaS1
import Derived.Test.YtmphblbpofnpaaaMM
namespace Go.Proofs.Ytmphblbpofnpaaa
open Go.Abs Go.Ds
set_option linter.unusedSimpArgs false
set_option linter.unusedVariables false
set_option maxRecDepth 20000
/-- Block m is a machine over the jobs L. -/
structure Mach (σ : List AB) (m : Nat) (L : List Job) (done : List Int) (now : Nat) : Prop where
  ex : ∃ j c d c', cellsOf σ m = some [.sl j 0 L.length c, .sl d 0 L.length c', .i .i64 now] ∧ cellsOf σ j = some (encJob.row L) ∧ cellsOf σ d = some (encInt.row done)
  len : done.length = L.length
theorem Mach.app {σ : List AB} {m : Nat} {L : List Job} {done : List Int} {now : Nat} (h : Mach σ m L done now) (τ : List AB) : Mach (σ ++ τ) m L done now := by
  obtain ⟨⟨j, c, d, c', h1, h2, h3⟩, h4⟩ := h
  exact ⟨⟨j, c, d, c', cells_old h1 τ, cells_old h2 τ, cells_old h3 τ⟩, h4⟩
section
variable {σ : List AB} {m : Nat} {L : List Job} {done : List Int} {now : Nat} {K : AV → List AB → Prop}
theorem impl_machine_deadline_ (h : Mach σ m L done now) (i : Nat) (hi : i < L.length) (hk : K (.i .i64 (L.getD i default).D) σ) : CallWp Try.prog n_impl_machine_deadline [.p m 0, .i .i64 i] σ K := by
  obtain ⟨⟨j, c, d, c', e1, e2, e3⟩, e4⟩ := h
  refine call_impl_machine_deadline (by simp) ?_
  simp only [c_impl_machine_deadline, onC_of e1, onC_of e2, onC_of e3, rdJ2 hi, lenJ, not_true_eq_false, not_false_eq_true, decide_true, decide_false, Bool.not_true, Bool.not_false, false_implies, true_implies, and_true, true_and, Bool.false_eq_true, Bool.true_eq_false, implies_true, Bool.not_not, Classical.not_not, go_sem, Int.reduceToNat, List.take_nil, Nat.zero_mul, Nat.reduceEqDiff, Nat.reduceAdd, Nat.reduceLT, Nat.reduceLeDiff, Nat.reduceMul, ↓reduceIte, reduceCtorEq]
  refine ⟨by omega, by omega, Fin.plain ?_⟩
  rw [show L.getD i default = L[i] from by simp [List.getD_eq_getElem?_getD, hi]] at hk
  exact hk
theorem impl_machine_any_ (i : Nat) {v : AV} (hk : K (.b true) σ) : CallWp Try.prog n_impl_machine_any [v, .i .i64 i] σ K := by
  refine call_impl_machine_any (by simp) ?_
  simp only [c_impl_machine_any, not_true_eq_false, not_false_eq_true, decide_true, decide_false, Bool.not_true, Bool.not_false, false_implies, true_implies, and_true, true_and, Bool.false_eq_true, Bool.true_eq_false, implies_true, Bool.not_not, Classical.not_not, go_sem, Int.reduceToNat, List.take_nil, Nat.zero_mul, Nat.reduceEqDiff, Nat.reduceAdd, Nat.reduceLT, Nat.reduceLeDiff, Nat.reduceMul, ↓reduceIte, reduceCtorEq]
  exact Fin.plain hk
theorem impl_machine_ready_ (h : Mach σ m L done now) (i : Nat) (hi : i < L.length) (hk : K (.b (readyJ L done now i)) σ) : CallWp Try.prog n_impl_machine_ready [.p m 0, .i .i64 i] σ K := by
  obtain ⟨⟨j, c, d, c', e1, e2, e3⟩, e4⟩ := h
  have hd : i < done.length := by omega
  refine call_impl_machine_ready (by simp) ?_
  have e5 : readyJ L done now i = decide (L[i].R ≤ now ∧ done[i] < L[i].E) := by
    unfold readyJ
    rw [show L.getD i default = L[i] from by simp [List.getD_eq_getElem?_getD, hi], show gI done i = done[i] from by simp [gI, List.getD_eq_getElem?_getD, hd]]
  rw [e5] at hk
  simp only [c_impl_machine_ready, onC_of e1, onC_of e2, onC_of e3, rdJ1 hi, rdJ3 hi, rdI hd, lenJ, lenI, not_true_eq_false, not_false_eq_true, decide_true, decide_false, Bool.not_true, Bool.not_false, false_implies, true_implies, and_true, true_and, Bool.false_eq_true, Bool.true_eq_false, implies_true, Bool.not_not, Classical.not_not, go_sem, Int.reduceToNat, List.take_nil, Nat.zero_mul, Nat.reduceEqDiff, Nat.reduceAdd, Nat.reduceLT, Nat.reduceLeDiff, Nat.reduceMul, ↓reduceIte, reduceCtorEq]
  refine ⟨by omega, by omega, fun h1 => ⟨by omega, by omega, by omega, by omega, Fin.plain ?_⟩, fun h1 => Fin.plain ?_⟩
  · rw [decide_eq_decide.2 (show done[i] < L[i].E ↔ L[i].R ≤ now ∧ done[i] < L[i].E from ⟨fun h => ⟨h1, h⟩, fun h => h.2⟩)]; exact hk
  · rw [show false = decide (L[i].R ≤ now ∧ done[i] < L[i].E) from (decide_eq_false fun h => h1 h.1).symm]; exact hk
theorem impl_machine_best_ {f f' : Nat} {first caps first' caps' : List (Nat × Nat)} (h : Mach σ m L done now) (hs : L.length ≤ 1000000) (key : Nat → Int) (may : Nat → Bool)
    (hf : ∀ i, i < L.length → Ans Try.prog f first caps σ [.i .i64 (i : Nat)] (.i .i64 (key i))) (hg : ∀ i, i < L.length → readyJ L done now i = true → Ans Try.prog f' first' caps' σ [.i .i64 (i : Nat)] (.b (may i)))
    (hk : K (.i .i64 (bestF L.length (fun i => readyJ L done now i && may i) key)) σ) : CallWp Try.prog n_impl_machine_best [.p m 0, .fn f first caps, .fn f' first' caps'] σ K := by
  have h0 := h
  obtain ⟨⟨j, c, d, c', e1, e2, e3⟩, e4⟩ := h0
  refine call_impl_machine_best (by simp) ?_
  simp only [c_impl_machine_best, onC_of e1, onC_of e2, onC_of e3, not_true_eq_false, not_false_eq_true, decide_true, decide_false, Bool.not_true, Bool.not_false, false_implies, true_implies, and_true, true_and, Bool.false_eq_true, Bool.true_eq_false, implies_true, Bool.not_not, Classical.not_not, go_sem, Int.reduceToNat, List.take_nil, Nat.zero_mul, Nat.reduceEqDiff, Nat.reduceAdd, Nat.reduceLT, Nat.reduceLeDiff, Nat.reduceMul, ↓reduceIte, reduceCtorEq]
  refine loop_count L.length (fun k => ⟨[(0, .p m 0), (1, .fn f first caps), (2, .fn f' first' caps'), (7, .i .i64 (bestF k (fun i => readyJ L done now i && may i) key)), (13, .i .i64 L.length), (14, .i .i64 k)], σ⟩) (fun _ => True) trivial (Wk.keep (by simp [look_cons, bestF])) fun k hkl _ => ?_
  simp only [l0_impl_machine_best, not_true_eq_false, not_false_eq_true, decide_true, decide_false, Bool.not_true, Bool.not_false, false_implies, true_implies, and_true, true_and, Bool.false_eq_true, Bool.true_eq_false, implies_true, Bool.not_not, Classical.not_not, go_sem, Int.reduceToNat, List.take_nil, Nat.zero_mul, Nat.reduceEqDiff, Nat.reduceAdd, Nat.reduceLT, Nat.reduceLeDiff, Nat.reduceMul, ↓reduceIte, reduceCtorEq]
  refine ⟨fun hl => impl_machine_ready_ h k hl ?_, fun hl => ?_⟩
  · have hb := bestF_range (fun i => readyJ L done now i && may i) key k
    have hsucc := bestF_succ k (fun i => readyJ L done now i && may i) key
    generalize bestF k (fun i => readyJ L done now i && may i) key = b at hb hsucc ⊢
    have same : ∀ T : List (Nat × AV), bestF (k + 1) (fun i => readyJ L done now i && may i) key = b → (∀ p ∈ ([(0, .p m 0), (1, .fn f first caps), (2, .fn f' first' caps'), (7, .i .i64 b), (13, .i .i64 L.length), (14, .i .i64 ((k + 1 : Nat) : Int))] : List (Nat × AV)), Abs.look T p.1 = p.2) →
        Wk σ.length 41 ⟨T, σ⟩ ⟨[(0, .p m 0), (1, .fn f first caps), (2, .fn f' first' caps'), (7, .i .i64 (bestF (k + 1) (fun i => readyJ L done now i && may i) key)), (13, .i .i64 L.length), (14, .i .i64 ((k + 1 : Nat) : Int))], σ⟩ := by
      intro T h1 h2; rw [h1]; exact Wk.keep h2
    have new : ∀ T : List (Nat × AV), bestF (k + 1) (fun i => readyJ L done now i && may i) key = k → (∀ p ∈ ([(0, .p m 0), (1, .fn f first caps), (2, .fn f' first' caps'), (7, .i .i64 (k : Int)), (13, .i .i64 L.length), (14, .i .i64 ((k + 1 : Nat) : Int))] : List (Nat × AV)), Abs.look T p.1 = p.2) →
        Wk σ.length 41 ⟨T, σ⟩ ⟨[(0, .p m 0), (1, .fn f first caps), (2, .fn f' first' caps'), (7, .i .i64 (bestF (k + 1) (fun i => readyJ L done now i && may i) key)), (13, .i .i64 L.length), (14, .i .i64 ((k + 1 : Nat) : Int))], σ⟩ := by
      intro T h1 h2; rw [h1]; exact Wk.keep h2
    simp only [not_true_eq_false, not_false_eq_true, decide_true, decide_false, Bool.not_true, Bool.not_false, false_implies, true_implies, and_true, true_and, Bool.false_eq_true, Bool.true_eq_false, implies_true, Bool.not_not, Classical.not_not, go_sem, Int.reduceToNat, List.take_nil, Nat.zero_mul, Nat.reduceEqDiff, Nat.reduceAdd, Nat.reduceLT, Nat.reduceLeDiff, Nat.reduceMul, ↓reduceIte, reduceCtorEq]
    refine bc_of (fun h1 => (hg k hl h1).at ?_) (fun h1 => ?_)
    · simp only [h1, Bool.true_and, not_true_eq_false, not_false_eq_true, decide_true, decide_false, Bool.not_true, Bool.not_false, false_implies, true_implies, and_true, true_and, Bool.false_eq_true, Bool.true_eq_false, implies_true, Bool.not_not, Classical.not_not, go_sem, Int.reduceToNat, List.take_nil, Nat.zero_mul, Nat.reduceEqDiff, Nat.reduceAdd, Nat.reduceLT, Nat.reduceLeDiff, Nat.reduceMul, ↓reduceIte, reduceCtorEq] at hsucc ⊢
      refine bc_of (fun h2 => ?_) (fun h2 => ?_)
      · simp only [h2, true_and] at hsucc
        refine ⟨fun h3 => ?_, fun h3 => ?_⟩
        · obtain ⟨nb, rfl⟩ := Int.eq_ofNat_of_zero_le (show 0 ≤ b by omega)
          refine (hf k hl).at ?_
          simp only [h1, h2, h3, Bool.true_and, not_true_eq_false, not_false_eq_true, decide_true, decide_false, Bool.not_true, Bool.not_false, false_implies, true_implies, and_true, true_and, Bool.false_eq_true, Bool.true_eq_false, implies_true, Bool.not_not, Classical.not_not, go_sem, Int.reduceToNat, List.take_nil, Nat.zero_mul, Nat.reduceEqDiff, Nat.reduceAdd, Nat.reduceLT, Nat.reduceLeDiff, Nat.reduceMul, ↓reduceIte, reduceCtorEq]
          refine (hf nb (by omega)).at ?_
          simp only [h1, h2, h3, Bool.true_and, not_true_eq_false, not_false_eq_true, decide_true, decide_false, Bool.not_true, Bool.not_false, false_implies, true_implies, and_true, true_and, Bool.false_eq_true, Bool.true_eq_false, implies_true, Bool.not_not, Classical.not_not, go_sem, Int.reduceToNat, List.take_nil, Nat.zero_mul, Nat.reduceEqDiff, Nat.reduceAdd, Nat.reduceLT, Nat.reduceLeDiff, Nat.reduceMul, ↓reduceIte, reduceCtorEq]
          refine ⟨fun h4 => ?_, fun h4 => ?_⟩
          · refine ⟨by omega, hl, new _ ?_ (by simp [look_cons])⟩
            rw [hsucc, if_pos (.inr (by rw [Int.toNat_natCast]; exact h4))]
          · refine ⟨by omega, hl, same _ ?_ (by simp [look_cons])⟩
            rw [hsucc, if_neg (fun g => g.elim (fun g => by omega) (fun g => h4 (by rwa [Int.toNat_natCast] at g)))]
        · refine ⟨by omega, hl, new _ ?_ (by simp [look_cons])⟩
          rw [hsucc, if_pos (.inl h3)]
      · refine ⟨by omega, hl, same _ ?_ (by simp [look_cons])⟩
        rw [hsucc, if_neg (fun g => by simp [h2] at g)]
    · refine ⟨by omega, hl, same _ ?_ (by simp [look_cons])⟩
      rw [hsucc, if_neg (fun g => by simp [h1] at g)]
  · have e : k = L.length := by omega
    subst e
    exact Fin.plain hk
end
end Go.Proofs.Ytmphblbpofnpaaa
