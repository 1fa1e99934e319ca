/- Contracts: runs by fixed priorities. -/
import Derived.Test.YtnlciginmeebhaaS8
import Derived.Test.YtnlciginmeebhaaC4
import Derived.Test.YtnlciginmeebhaaMM
namespace Go.Proofs.Ytnlciginmeebhaa
open Go.Abs Go.Ds
set_option linter.unusedSimpArgs false
set_option linter.unusedVariables false
set_option maxRecDepth 20000

/-- The rank of a task; the job that a priority order picks. -/
def rk (O : List Int) (t : Int) : Int := idxF (fun y => decide (y = t)) O
def fixPick (O : List Int) (L : List Job) (now : Nat) (done : List Int) : Int := bestF L.length (readyJ L done now) fun i => rk O (L.getD i default).T
theorem fix_fair (O : List Int) (L : List Job) : Go.Ds.Fair L (fixPick O L) := fun now done => best_fair fun _ h => h
def fixRun (O : List Int) (L : List Job) : List Int := (simU L (fixPick O L) 120).run
def fixFin (O : List Int) (L : List Job) : List Int := (simU L (fixPick O L) 120).fin

theorem impl_fixed_ {v : AV} {O : List Int} {σ : List AB} (h : Rd encInt σ v O) {K : AV → List AB → Prop} (hk : K (.fn n_impl_fixed_1 [] [(σ.length, 0)]) (σ ++ [.rw ty_sl_int [v] 1])) : CallWp Try.prog n_impl_fixed [v] σ K := by
  refine callC_impl_fixed (by simp) fun hC hA => ?_
  have d := h.data
  simp only [c_impl_fixed, List.append_assoc, at_new, at_new0, set_new, set_new0, d, not_true_eq_false, not_false_eq_true, decide_true, decide_false, Bool.not_true, Bool.not_false, false_implies, true_implies, and_true, true_and, Bool.false_eq_true, Bool.true_eq_false, implies_true, Bool.not_not, Classical.not_not, go_sem, Int.reduceToNat, List.take_nil, Nat.zero_mul, Nat.reduceEqDiff, Nat.reduceAdd, Nat.reduceLT, Nat.reduceLeDiff, Nat.reduceMul, ↓reduceIte, reduceCtorEq]
  have e : v.cl = [v] := by
    rcases h with ⟨n, o, cap, cs, rfl, _⟩ | ⟨rfl, _⟩ <;> rfl
  rw [e]
  exact Fin.plain hk

/-- A captured variable that names a machine. -/
theorem impl_fixed_1_1_ {σ : List AB} {x : Nat × Nat} {y m : Nat} {O : List Int} {L : List Job} {done : List Int} {now : Nat} (h : Cap encInt σ x O) (hO : O.length ≤ 1000000) (hy : cellsOf σ y = some [.p m 0]) (hm : Mach σ m L done now) (i : Nat) (hi : i < L.length)
    {K : AV → List AB → Prop} (hk : K (.i .i64 (rk O (L.getD i default).T)) σ) : CallWp Try.prog n_impl_fixed_1_1 [.i .i64 i, .p x.1 x.2, .p y 0] σ K := by
  obtain ⟨cs, n, c, e1, e2, e3, e4⟩ := h
  obtain ⟨⟨j, c', d, c'', f1, f2, f3⟩, f4⟩ := hm
  refine call_impl_fixed_1_1 (by simp) ?_
  simp only [c_impl_fixed_1_1, onC_of e1, onC_of e4, onC_of hy, onC_of f1, onC_of f2, e3, rdJ0 hi, lenJ, not_true_eq_false, not_false_eq_true, decide_true, decide_false, Bool.not_true, Bool.not_false, false_implies, true_implies, and_true, true_and, Bool.false_eq_true, Bool.true_eq_false, implies_true, Bool.not_not, Classical.not_not, go_sem, Int.reduceToNat, List.take_nil, Nat.zero_mul, Nat.reduceEqDiff, Nat.reduceAdd, Nat.reduceLT, Nat.reduceLeDiff, Nat.reduceMul, ↓reduceIte, reduceCtorEq]
  refine ⟨e2, hi, by omega, onCall.by (slices_Index_int_ (L := O) _ (by omega) (Rd.own e4) ⟨rfl, rfl⟩) ?_⟩
  simp only [go_sem, Int.reduceToNat, List.take_nil, Nat.zero_mul, Nat.reduceEqDiff, Nat.reduceAdd, Nat.reduceLT, Nat.reduceLeDiff, Nat.reduceMul, ↓reduceIte, reduceCtorEq]
  rw [show L.getD i default = L[i] from by simp [List.getD_eq_getElem?_getD, hi]] at hk
  exact Fin.plain hk

theorem impl_fixed_1_ {σ : List AB} {x : Nat × Nat} {m : Nat} {O : List Int} {L : List Job} {done : List Int} {now : Nat} (h : Cap encInt σ x O) (hO : O.length ≤ 1000000) (hm : Mach σ m L done now) (hl : L.length ≤ 1000000)
    {K : AV → List AB → Prop} (hk : K (.i .i64 (fixPick O L now done)) σ) : CallWp Try.prog n_impl_fixed_1 [.p m 0, .p x.1 x.2] σ K := by
  refine callC_impl_fixed_1 (by simp) fun hC hA => ?_
  simp only [c_impl_fixed_1, List.append_assoc, at_new, at_new0, set_new, set_new0, not_true_eq_false, not_false_eq_true, decide_true, decide_false, Bool.not_true, Bool.not_false, false_implies, true_implies, and_true, true_and, Bool.false_eq_true, Bool.true_eq_false, implies_true, Bool.not_not, Classical.not_not, go_sem, Int.reduceToNat, List.take_nil, Nat.zero_mul, Nat.reduceEqDiff, Nat.reduceAdd, Nat.reduceLT, Nat.reduceLeDiff, Nat.reduceMul, ↓reduceIte, reduceCtorEq]
  refine impl_machine_best_ (hm.app _) hl (fun i => rk O (L.getD i default).T) (fun _ => true) (fun i hi τ K hk => ?_) (fun i hi _ τ K hk => impl_machine_any_ i hk) ?_
  · exact impl_fixed_1_1_ (x := x) (y := σ.length) (m := m) ((h.app _).app τ) hO (cells_old (by simp [cellsOf]) τ) ((hm.app _).app τ) i hi hk
  · simp only [Bool.and_true, go_sem, Int.reduceToNat, List.take_nil, Nat.zero_mul, Nat.reduceEqDiff, Nat.reduceAdd, Nat.reduceLT, Nat.reduceLeDiff, Nat.reduceMul, ↓reduceIte, reduceCtorEq]
    exact Fin.drop hC (Nat.le_refl _) rfl hk

theorem impl_RunFixed0 (S : List Task) (O : List Int) (L : List Job) (hs : S.length ≤ 1048576) (ho : O.length ≤ 1048576) (hl : L.length ≤ 1048576) (c c' c3 : Nat) : CallWp Try.prog n_impl_RunFixed [.sl 0 0 S.length c, .sl 1 0 O.length c', .sl 2 0 L.length c3] [.ro (encTask.row S), .ro (encInt.row O), .ro (encJob.row L)]
    (fun x σ' => ∃ τ, σ' = [.ro (encTask.row S), .ro (encInt.row O), .ro (encJob.row L)] ++ τ ∧ SchedP 3 (ordOk S O ∧ jobsLegal S L) (fixRun O L) (fixFin O L) L.length x τ) := by
  refine call_impl_RunFixed (by simp) ?_
  simp only [c_impl_RunFixed, go_sem, Int.reduceToNat, List.take_nil, Nat.zero_mul, Nat.reduceEqDiff, Nat.reduceAdd, Nat.reduceLT, Nat.reduceLeDiff, Nat.reduceMul, ↓reduceIte, reduceCtorEq]
  refine impl_OrderValid_ (S := S) (O := O) (by omega) (by omega) (Rd.own rfl) (Rd.own rfl) ?_
  simp only [not_true_eq_false, not_false_eq_true, decide_true, decide_false, Bool.not_true, Bool.not_false, false_implies, true_implies, and_true, true_and, Bool.false_eq_true, Bool.true_eq_false, implies_true, Bool.not_not, Classical.not_not, go_sem, Int.reduceToNat, List.take_nil, Nat.zero_mul, Nat.reduceEqDiff, Nat.reduceAdd, Nat.reduceLT, Nat.reduceLeDiff, Nat.reduceMul, ↓reduceIte, reduceCtorEq]
  refine ⟨fun h1 => ?_, fun h1 => ?_⟩
  · refine impl_JobsLegal_ (S := S) (L := L) (by omega) (by omega) (Rd.own rfl) (Rd.own rfl) ?_
    simp only [not_true_eq_false, not_false_eq_true, decide_true, decide_false, Bool.not_true, Bool.not_false, false_implies, true_implies, and_true, true_and, Bool.false_eq_true, Bool.true_eq_false, implies_true, Bool.not_not, Classical.not_not, go_sem, Int.reduceToNat, List.take_nil, Nat.zero_mul, Nat.reduceEqDiff, Nat.reduceAdd, Nat.reduceLT, Nat.reduceLeDiff, Nat.reduceMul, ↓reduceIte, reduceCtorEq]
    refine ⟨fun h2 => ?_, fun h2 => ?_⟩
    · exact Fin.pick [0, 1, 2] (.agg [.sn, .sn]) _ ⟨[], rfl, .inl ⟨fun h => h2 h.2, rfl, rfl⟩⟩
    · have h60 := h2.2.1.1
      have h61 := h1.2.1
      have h62 := h1.1.1
      refine impl_fixed_ (O := O) (Rd.own rfl) ?_
      simp only [not_true_eq_false, not_false_eq_true, decide_true, decide_false, Bool.not_true, Bool.not_false, false_implies, true_implies, and_true, true_and, Bool.false_eq_true, Bool.true_eq_false, implies_true, Bool.not_not, Classical.not_not, go_sem, Int.reduceToNat, List.take_nil, Nat.zero_mul, Nat.reduceEqDiff, Nat.reduceAdd, Nat.reduceLT, Nat.reduceLeDiff, Nat.reduceMul, ↓reduceIte, reduceCtorEq]
      refine impl_simulate_ (L := L) (fixPick O L) rfl (by omega) (fun τ m done now hn hm K hk => impl_fixed_1_ (x := (4, 0)) (O := O) (Cap.app ⟨_, 1, c', rfl, by simp, rfl, rfl⟩ τ) (by omega) hm (by omega) hk) (fun now done => bestF_range _ _ _) fun c1 c2 => ?_
      simp only [go_sem, Int.reduceToNat, List.take_nil, Nat.zero_mul, Nat.reduceEqDiff, Nat.reduceAdd, Nat.reduceLT, Nat.reduceLeDiff, Nat.reduceMul, ↓reduceIte, reduceCtorEq]
      exact Fin.pick [0, 1, 2, 5, 6] (.agg [.sl 3 0 120 c1, .sl 4 0 L.length c2]) _ ⟨_, rfl, .inr ⟨⟨h1, h2⟩, c1, c2, rfl, rfl⟩⟩
  · exact Fin.pick [0, 1, 2] (.agg [.sn, .sn]) _ ⟨[], rfl, .inl ⟨fun h => h1 h.1, rfl, rfl⟩⟩

theorem impl_RunFixed_ {S : List Task} {O : List Int} {L : List Job} (hs : S.length ≤ 1048576) (ho : O.length ≤ 1048576) (hl : L.length ≤ 1048576) {v w u : AV} {σ : List AB} (h : Rd encTask σ v S) (h1 : Rd encInt σ w O) (h' : Rd encJob σ u L) {K : AV → List AB → Prop} (hn : ¬ (ordOk S O ∧ jobsLegal S L) → K (.agg [.sn, .sn]) σ)
    (hy : ordOk S O ∧ jobsLegal S L → ∀ c1 c2, K (.agg [.sl σ.length 0 120 c1, .sl (σ.length + 1) 0 L.length c2]) (σ ++ [.rw ty_int (encInt.row (fixRun O L)) c1, .rw ty_int (encInt.row (fixFin O L)) c2])) : CallWp Try.prog n_impl_RunFixed [v, w, u] σ K := by
  refine call_news _ (rds_cons h.r (rds_cons h1.r (rds1 h'.r))) (fun c => [.sl 0 0 S.length (c 0), .sl 1 0 O.length (c 1), .sl 2 0 L.length (c 2)]) (SchedP 3 (ordOk S O ∧ jobsLegal S L) (fixRun O L) (fixFin O L) L.length) (fun c => impl_RunFixed0 S O L hs ho hl (c 0) (c 1) (c 2)) (fun _ _ h => h.fr) (fun ν c h => ⟨h.1, h.2.1, h.2.2.1, trivial⟩) (fun _ => rfl) ?_
  rintro x τ (⟨hno, rfl, rfl⟩ | ⟨hyes, c1, c2, rfl, rfl⟩)
  · rw [List.append_nil]; exact hn hno
  · exact hy hyes c1 c2

theorem fix_key (O : List Int) (L : List Job) : keyPick L (L.map fun j => rk O j.T) = fixPick O L := by
  funext now done
  refine bestF_congr (fun _ _ => rfl) fun i hi => ?_
  simp [gI, List.getD_eq_getElem?_getD, hi]

end Go.Proofs.Ytnlciginmeebhaa
