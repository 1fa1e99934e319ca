import Derived.Test.YtnlciginmeebhaaS2
namespace Go.Proofs.Ytnlciginmeebhaa
open Go.Abs Go.Ds
set_option linter.unusedSimpArgs false
set_option linter.unusedVariables false
set_option maxRecDepth 20000
theorem impl_edf_ {σ : List AB} {m : Nat} {L : List Job} {done : List Int} {now : Nat} {K : AV → List AB → Prop} (h : Mach σ m L done now) (hs : L.length ≤ 1000000) (hk : K (.i .i64 (edfPick L now done)) σ) : CallWp Try.prog n_impl_edf [.p m 0] σ K := by
  refine call_impl_edf (by simp) ?_
  simp only [c_impl_edf, not_true_eq_false, not_false_eq_true, decide_true, decide_false, Bool.not_true, Bool.not_false, false_implies, true_implies, and_true, true_and, Bool.false_eq_true, Bool.true_eq_false, implies_true, Bool.not_not, Classical.not_not, go_sem, Int.reduceToNat, List.take_nil, Nat.zero_mul, Nat.reduceEqDiff, Nat.reduceAdd, Nat.reduceLT, Nat.reduceLeDiff, Nat.reduceMul, ↓reduceIte, reduceCtorEq]
  refine impl_machine_best_ h hs (fun i => (L.getD i default).D) (fun _ => true) (fun i hi τ K hk => impl_machine_deadline_ (h.app τ) i hi hk) (fun i hi _ τ K hk => impl_machine_any_ i hk) ?_
  simp only [Bool.and_true, not_true_eq_false, not_false_eq_true, decide_true, decide_false, Bool.not_true, Bool.not_false, false_implies, true_implies, and_true, true_and, Bool.false_eq_true, Bool.true_eq_false, implies_true, Bool.not_not, Classical.not_not, go_sem, Int.reduceToNat, List.take_nil, Nat.zero_mul, Nat.reduceEqDiff, Nat.reduceAdd, Nat.reduceLT, Nat.reduceLeDiff, Nat.reduceMul, ↓reduceIte, reduceCtorEq]
  exact Fin.plain hk
theorem impl_newMachine_ {σ : List AB} {j len c : Nat} {K : AV → List AB → Prop} (hl : len ≤ 1000000) (hk : K (.p (σ.length + 1) 0) (σ ++ [.rw ty_int (encInt.row (List.replicate len 0)) len, .rw ty_impl_machine [.sl j 0 len c, .sl σ.length 0 len len, .i .i64 0] 3])) : CallWp Try.prog n_impl_newMachine [.sl j 0 len c] σ K := by
  refine call_impl_newMachine (by simp) ?_
  simp only [c_impl_newMachine, List.append_assoc, not_true_eq_false, not_false_eq_true, decide_true, decide_false, Bool.not_true, Bool.not_false, false_implies, true_implies, and_true, true_and, Bool.false_eq_true, Bool.true_eq_false, implies_true, Bool.not_not, Classical.not_not, go_sem, Int.reduceToNat, List.take_nil, Nat.zero_mul, Nat.reduceEqDiff, Nat.reduceAdd, Nat.reduceLT, Nat.reduceLeDiff, Nat.reduceMul, ↓reduceIte, reduceCtorEq]
  rw [show rep len [AV.i .i64 0] = encInt.row (List.replicate len 0) from encInt.rep 0 _]
  exact ⟨by omega, Fin.plain hk⟩
def Picks (P : Program) (f : Nat) (first caps : List (Nat × Nat)) (σ : List AB) (L : List Job) (pick : Nat → List Int → Int) : Prop :=
  ∀ (τ : List AB) (m : Nat) (done : List Int) (now : Nat), now < 120 → Mach (σ ++ τ) m L done now → ∀ K : AV → List AB → Prop, K (.i .i64 (pick now done)) (σ ++ τ) → CallWp P f (pAV first ++ [.p m 0] ++ pAV caps) (σ ++ τ) K
theorem Picks.go {P : Program} {f : Nat} {first caps : List (Nat × Nat)} {σ : List AB} {L : List Job} {pick : Nat → List Int → Int} (h : Picks P f first caps σ L pick) {τ : List AB} {m : Nat} {done : List Int} {now : Nat} (hn : now < 120) (hm : Mach (σ ++ τ) m L done now)
    {K : AV → List AB → Prop} (hk : K (.i .i64 (pick now done)) (σ ++ τ)) : CallWp P f (pAV first ++ .p m 0 :: pAV caps) (σ ++ τ) K := by simpa using h τ m done now hn hm K hk
def runRow (r : List Int) (k : Nat) : List Int := r ++ List.replicate (120 - k) (-1)
theorem runRow_length {r : List Int} {k : Nat} (h : r.length = k) (hk : k ≤ 120) : (runRow r k).length = 120 := by simp [runRow]; omega
theorem runRow_set {r : List Int} {k : Nat} (h : r.length = k) (hk : k < 120) (i : Int) : (runRow r k).set k i = runRow (r ++ [i]) (k + 1) := by
  unfold runRow
  rw [List.set_append_right _ _ (by omega), h, Nat.sub_self, show 120 - k = (120 - (k + 1)) + 1 from by omega, List.replicate_succ, List.set_cons_zero, List.append_assoc]
  rfl
theorem runRow_all {r : List Int} : runRow r 120 = r := by simp [runRow]
end Go.Proofs.Ytnlciginmeebhaa
