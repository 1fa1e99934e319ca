import Derived.Test.YtdmoafmgeipenaaS4
import Derived.Test.YtdmoafmgeipenaaS5
import Derived.Test.YtdmoafmgeipenaaMM
namespace Go.Proofs.Ytdmoafmgeipenaa
open Go.Abs Go.Ds
set_option linter.unusedSimpArgs false
set_option linter.unusedVariables false
set_option maxRecDepth 20000
def pausePick (f n : Int) (L : List Job) (now : Nat) (done : List Int) : Int := if f ≤ now ∧ (now : Int) < f + n then -1 else edfPick L now done
theorem pause_fair (f n : Int) (L : List Job) : Go.Ds.Fair L (pausePick f n L) := fun now done => by
  unfold pausePick
  split
  · exact .inl rfl
  · exact edf_fair L now done
def pauseRun (f n : Int) (L : List Job) : List Int := (simU L (pausePick f n L) 120).run
def pauseFin (f n : Int) (L : List Job) : List Int := (simU L (pausePick f n L) 120).fin
theorem impl_pause_1_ {σ : List AB} {x y : Nat} {f n : Int} (hx : cellsOf σ x = some [.i .i64 f]) (hy : cellsOf σ y = some [.i .i64 n]) (hf : 0 ≤ f ∧ f ≤ 1000) (hn : 0 ≤ n ∧ n ≤ 1000) (now : Int)
    {K : AV → List AB → Prop} (hk : K (.b (decide (f ≤ now ∧ now < f + n))) σ) : CallWp Try.prog n_impl_pause_1 [.i .i64 now, .p x 0, .p y 0] σ K := by
  refine call_impl_pause_1 (by simp) ?_
  simp only [c_impl_pause_1, onC_of hx, onC_of hy, not_true_eq_false, not_false_eq_true, decide_true, decide_false, Bool.not_true, Bool.not_false, false_implies, true_implies, and_true, true_and, Bool.false_eq_true, Bool.true_eq_false, implies_true, Bool.not_not, Classical.not_not, go_sem, Int.reduceToNat, List.take_nil, Nat.zero_mul, Nat.reduceEqDiff, Nat.reduceAdd, Nat.reduceLT, Nat.reduceLeDiff, Nat.reduceMul, ↓reduceIte, reduceCtorEq]
  refine ⟨fun h => ⟨by omega, Fin.plain ?_⟩, fun h => Fin.plain ?_⟩
  · rw [decide_eq_decide.2 (show now < f + n ↔ f ≤ now ∧ now < f + n from ⟨fun g => ⟨h, g⟩, fun g => g.2⟩)]; exact hk
  · rw [show false = decide (f ≤ now ∧ now < f + n) from (decide_eq_false fun g => h g.1).symm]; exact hk
theorem impl_paused_1_ {σ : List AB} {z x y m : Nat} {f n : Int} {L : List Job} {done : List Int} {now : Nat} (hz : cellsOf σ z = some [.fn n_impl_pause_1 [] [(x, 0), (y, 0)]]) (hx : cellsOf σ x = some [.i .i64 f]) (hy : cellsOf σ y = some [.i .i64 n]) (hf : 0 ≤ f ∧ f ≤ 1000) (hn : 0 ≤ n ∧ n ≤ 1000)
    (hm : Mach σ m L done now) (hl : L.length ≤ 1000000) {K : AV → List AB → Prop} (hk : K (.i .i64 (pausePick f n L now done)) σ) : CallWp Try.prog n_impl_paused_1 [.p m 0, .p z 0] σ K := by
  have hm0 := hm
  obtain ⟨⟨j, c, d, c', e1, e2, e3⟩, e4⟩ := hm0
  refine call_impl_paused_1 (by simp) ?_
  simp only [c_impl_paused_1, onC_of hz, onC_of e1, not_true_eq_false, not_false_eq_true, decide_true, decide_false, Bool.not_true, Bool.not_false, false_implies, true_implies, and_true, true_and, Bool.false_eq_true, Bool.true_eq_false, implies_true, Bool.not_not, Classical.not_not, go_sem, Int.reduceToNat, List.take_nil, Nat.zero_mul, Nat.reduceEqDiff, Nat.reduceAdd, Nat.reduceLT, Nat.reduceLeDiff, Nat.reduceMul, ↓reduceIte, reduceCtorEq]
  refine onCall.by (impl_pause_1_ hx hy hf hn now ⟨rfl, rfl⟩) ?_
  simp only [not_true_eq_false, not_false_eq_true, decide_true, decide_false, Bool.not_true, Bool.not_false, false_implies, true_implies, and_true, true_and, Bool.false_eq_true, Bool.true_eq_false, implies_true, Bool.not_not, Classical.not_not, go_sem, Int.reduceToNat, List.take_nil, Nat.zero_mul, Nat.reduceEqDiff, Nat.reduceAdd, Nat.reduceLT, Nat.reduceLeDiff, Nat.reduceMul, ↓reduceIte, reduceCtorEq]
  unfold pausePick at hk
  refine ⟨fun h => ?_, fun h => ?_⟩
  · rw [if_pos h] at hk; exact Fin.plain hk
  · rw [if_neg h] at hk
    refine impl_edf_ hm hl ?_
    simp only [go_sem, Int.reduceToNat, List.take_nil, Nat.zero_mul, Nat.reduceEqDiff, Nat.reduceAdd, Nat.reduceLT, Nat.reduceLeDiff, Nat.reduceMul, ↓reduceIte, reduceCtorEq]
    exact Fin.plain hk
theorem impl_paused_ {σ : List AB} {j c x y : Nat} {f n : Int} {L : List Job} (hj : cellsOf σ j = some (encJob.row L)) (hx : cellsOf σ x = some [.i .i64 f]) (hy : cellsOf σ y = some [.i .i64 n]) (hf : 0 ≤ f ∧ f ≤ 1000) (hn : 0 ≤ n ∧ n ≤ 1000) (hl : L.length ≤ 1000)
    {K : AV → List AB → Prop} (hk : ∀ c1 c2, K (.agg [.sl σ.length 0 120 c1, .sl (σ.length + 1) 0 L.length c2]) (σ ++ [.rw ty_int (encInt.row (pauseRun f n L)) c1, .rw ty_int (encInt.row (pauseFin f n L)) c2])) :
    CallWp Try.prog n_impl_paused [.sl j 0 L.length c, .fn n_impl_pause_1 [] [(x, 0), (y, 0)]] σ K := by
  refine callC_impl_paused (by simp) fun hC hA => ?_
  simp only [c_impl_paused, List.append_assoc, at_new, at_new0, set_new, set_new0, not_true_eq_false, not_false_eq_true, decide_true, decide_false, Bool.not_true, Bool.not_false, false_implies, true_implies, and_true, true_and, Bool.false_eq_true, Bool.true_eq_false, implies_true, Bool.not_not, Classical.not_not, go_sem, Int.reduceToNat, List.take_nil, Nat.zero_mul, Nat.reduceEqDiff, Nat.reduceAdd, Nat.reduceLT, Nat.reduceLeDiff, Nat.reduceMul, ↓reduceIte, reduceCtorEq]
  refine impl_simulate_ (L := L) (pausePick f n L) (cells_old hj _) hl (fun τ m done now hn' hm K hk => impl_paused_1_ (z := σ.length) (x := x) (y := y) (cells_old (by simp [cellsOf]) τ) (cells_old (cells_old hx _) τ) (cells_old (cells_old hy _) τ) hf hn hm (by omega) hk) (fun now done => (pause_fair f n L).lt now done) fun c1 c2 => ?_
  simp only [List.append_assoc, List.length_append, List.length_cons, List.length_nil, Nat.zero_add, Nat.add_assoc, at_new, at_new0, set_new, set_new0, not_true_eq_false, not_false_eq_true, decide_true, decide_false, Bool.not_true, Bool.not_false, false_implies, true_implies, and_true, true_and, Bool.false_eq_true, Bool.true_eq_false, implies_true, Bool.not_not, Classical.not_not, go_sem, Int.reduceToNat, List.take_nil, Nat.zero_mul, Nat.reduceEqDiff, Nat.reduceAdd, Nat.reduceLT, Nat.reduceLeDiff, Nat.reduceMul, ↓reduceIte, reduceCtorEq]
  exact Fin.pickG hC (Nat.le_refl _) [2, 3] (.agg [.sl σ.length 0 120 c1, .sl (σ.length + 1) 0 L.length c2]) _ (hk c1 c2) (hf := by simp [Go.Abs.cellsIn, Enc.row_bel])
theorem impl_pause_ {σ : List AB} {j c : Nat} {f n : Int} {L : List Job} (hj : cellsOf σ j = some (encJob.row L)) (hf : 0 ≤ f ∧ f ≤ 1000) (hn : 0 ≤ n ∧ n ≤ 1000) (hl : L.length ≤ 1000)
    {K : AV → List AB → Prop} (hk : ∀ c1 c2, K (.agg [.sl σ.length 0 120 c1, .sl (σ.length + 1) 0 L.length c2]) (σ ++ [.rw ty_int (encInt.row (pauseRun f n L)) c1, .rw ty_int (encInt.row (pauseFin f n L)) c2])) :
    CallWp Try.prog n_impl_pause [.sl j 0 L.length c, .i .i64 f, .i .i64 n] σ K := by
  refine callC_impl_pause (by simp) fun hC hA => ?_
  simp only [c_impl_pause, List.append_assoc, at_new, at_new0, set_new, set_new0, not_true_eq_false, not_false_eq_true, decide_true, decide_false, Bool.not_true, Bool.not_false, false_implies, true_implies, and_true, true_and, Bool.false_eq_true, Bool.true_eq_false, implies_true, Bool.not_not, Classical.not_not, go_sem, Int.reduceToNat, List.take_nil, Nat.zero_mul, Nat.reduceEqDiff, Nat.reduceAdd, Nat.reduceLT, Nat.reduceLeDiff, Nat.reduceMul, ↓reduceIte, reduceCtorEq]
  refine impl_paused_ (f := f) (n := n) (L := L) (cells_old hj _) (by simp [cellsOf]) (by simp [cellsOf, at_new]) hf hn hl fun c1 c2 => ?_
  simp only [List.append_assoc, List.length_append, List.length_cons, List.length_nil, Nat.zero_add, Nat.add_assoc, at_new, at_new0, set_new, set_new0, not_true_eq_false, not_false_eq_true, decide_true, decide_false, Bool.not_true, Bool.not_false, false_implies, true_implies, and_true, true_and, Bool.false_eq_true, Bool.true_eq_false, implies_true, Bool.not_not, Classical.not_not, go_sem, Int.reduceToNat, List.take_nil, Nat.zero_mul, Nat.reduceEqDiff, Nat.reduceAdd, Nat.reduceLT, Nat.reduceLeDiff, Nat.reduceMul, ↓reduceIte, reduceCtorEq]
  exact Fin.pickG hC (Nat.le_refl _) [3, 4] (.agg [.sl σ.length 0 120 c1, .sl (σ.length + 1) 0 L.length c2]) _ (hk c1 c2) (hf := by simp [Go.Abs.cellsIn, Enc.row_bel])
end Go.Proofs.Ytdmoafmgeipenaa
