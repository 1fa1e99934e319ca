/- Contracts: checking a schedule, of the program. -/
import Derived.Test.YtgnlibnnpipbhaaS3
import Derived.Test.YtgnlibnnpipbhaaAbsY
import Derived.Test.YtgnlibnnpipbhaaC2
import Derived.Test.YtgnlibnnpipbhaaMM
namespace Go.Proofs.Ytgnlibnnpipbhaa
open Go.Abs Go.Ds
set_option linter.unusedSimpArgs false
set_option linter.unusedVariables false
set_option maxRecDepth 20000
set_option maxHeartbeats 1000000

/-- One tick. -/
theorem impl_machine_checkTick_ {S : List Task} {L : List Job} {R done : List Int} {now : Nat} {e : Int} {c : Nat} (hl : L.length ≤ 1000) (hnow : now < 120) (hd : done.length = L.length) (hb : ∀ i, i < L.length → 0 ≤ gI done i ∧ gI done i ≤ 1000) {K : AV → List AB → Prop}
    (hk : ∀ d, d.length = L.length → (chkCode L now done e = 0 → d = tickDone done e) → K (.i .i64 (chkCode L now done e)) [.ro (encTask.row S), .ro (encJob.row L), .ro (encInt.row R), .rw ty_int (encInt.row d) L.length, .rw ty_impl_machine [.sl 1 0 L.length c, .sl 3 0 L.length L.length, .i .i64 now] 3]) :
    CallWp Try.prog n_impl_machine_checkTick [.p 4 0, .i .i64 e] [.ro (encTask.row S), .ro (encJob.row L), .ro (encInt.row R), .rw ty_int (encInt.row done) L.length, .rw ty_impl_machine [.sl 1 0 L.length c, .sl 3 0 L.length L.length, .i .i64 now] 3] K := by
  have hm : Mach [.ro (encTask.row S), .ro (encJob.row L), .ro (encInt.row R), .rw ty_int (encInt.row done) L.length, .rw ty_impl_machine [.sl 1 0 L.length c, .sl 3 0 L.length L.length, .i .i64 now] 3] 4 L done now := ⟨⟨1, c, 3, L.length, rfl, rfl, rfl⟩, hd⟩
  by_cases hbad : e ≠ -1 ∧ ¬ ((0 ≤ e ∧ e ≤ (L.length : Int) - 1) ∧ readyJ L done now e.toNat = true)
  · have hcode : chkCode L now done e = 3 := if_pos hbad
    have hk3 := hk done hd (fun h => by rw [hcode] at h; cases h)
    rw [hcode] at hk3
    refine call_impl_machine_checkTick (by simp) ?_
    simp only [c_impl_machine_checkTick, hbad.1, not_true_eq_false, not_false_eq_true, decide_true, decide_false, Bool.not_true, Bool.not_false, false_implies, true_implies, and_true, true_and, Bool.false_eq_true, Bool.true_eq_false, implies_true, Bool.not_not, Classical.not_not, go_sem, Int.reduceToNat, List.take_nil, Nat.zero_mul, Nat.reduceEqDiff, Nat.reduceAdd, Nat.reduceLT, Nat.reduceLeDiff, Nat.reduceMul, ↓reduceIte, reduceCtorEq]
    refine ⟨by omega, impl_in_ _ _ _ ?_⟩
    simp only [not_true_eq_false, not_false_eq_true, decide_true, decide_false, Bool.not_true, Bool.not_false, false_implies, true_implies, and_true, true_and, Bool.false_eq_true, Bool.true_eq_false, implies_true, Bool.not_not, Classical.not_not, go_sem, Int.reduceToNat, List.take_nil, Nat.zero_mul, Nat.reduceEqDiff, Nat.reduceAdd, Nat.reduceLT, Nat.reduceLeDiff, Nat.reduceMul, ↓reduceIte, reduceCtorEq]
    refine ⟨fun h1 => ?_, fun h1 => Fin.pick [0, 1, 2, 3, 4] (.i .i64 3) _ hk3⟩
    obtain ⟨n, rfl⟩ := Int.eq_ofNat_of_zero_le h1.1
    refine impl_machine_ready_ hm n (by omega) ?_
    have hnr : readyJ L done now n = false := by
      cases hr : readyJ L done now n with
      | false => rfl
      | true => exact absurd ⟨h1, by simpa using hr⟩ hbad.2
    simp only [hnr, not_true_eq_false, not_false_eq_true, decide_true, decide_false, Bool.not_true, Bool.not_false, false_implies, true_implies, and_true, true_and, Bool.false_eq_true, Bool.true_eq_false, implies_true, Bool.not_not, Classical.not_not, go_sem, Int.reduceToNat, List.take_nil, Nat.zero_mul, Nat.reduceEqDiff, Nat.reduceAdd, Nat.reduceLT, Nat.reduceLeDiff, Nat.reduceMul, ↓reduceIte, reduceCtorEq]
    exact Fin.pick [0, 1, 2, 3, 4] (.i .i64 3) _ hk3
  have good : e = -1 ∨ ∃ n : Nat, e = n ∧ n < L.length ∧ readyJ L done now n = true := by
    by_cases h1 : e = -1
    · exact .inl h1
    · have h2 : (0 ≤ e ∧ e ≤ (L.length : Int) - 1) ∧ readyJ L done now e.toNat = true := by
        apply Classical.byContradiction
        intro hno; exact hbad ⟨h1, hno⟩
      obtain ⟨n, rfl⟩ := Int.eq_ofNat_of_zero_le h2.1.1
      exact .inr ⟨n, rfl, by omega, by simpa using h2.2⟩
  refine call_impl_machine_checkTick (by simp) ?_
  simp only [c_impl_machine_checkTick, not_true_eq_false, not_false_eq_true, decide_true, decide_false, Bool.not_true, Bool.not_false, false_implies, true_implies, and_true, true_and, Bool.false_eq_true, Bool.true_eq_false, implies_true, Bool.not_not, Classical.not_not, go_sem, Int.reduceToNat, List.take_nil, Nat.zero_mul, Nat.reduceEqDiff, Nat.reduceAdd, Nat.reduceLT, Nat.reduceLeDiff, Nat.reduceMul, ↓reduceIte, reduceCtorEq]
  have hbr := bestF_spec (readyJ L done now) (fun i => (L.getD i default).D) L.length
  change (edfPick L now done = -1 ∧ _) ∨ (∃ k : Nat, edfPick L now done = k ∧ _) at hbr
  have hcode0 : chkCode L now done e = if e = -1 ∧ 0 ≤ edfPick L now done then 4 else if 0 ≤ e ∧ (L.getD (edfPick L now done).toNat default).D < (L.getD e.toNat default).D then 5
      else if lateNow L now (tickDone done e) = true then 6 else 0 := if_neg hbad
  have hDl : (tickDone done e).length = L.length := by
    unfold tickDone; split
    · rw [List.length_set]; exact hd
    · exact hd
  have hkD := hk (tickDone done e) hDl (fun _ => rfl)
  obtain ⟨e', he⟩ : ∃ e', e' = e := ⟨e, rfl⟩
  rw [← he] at hkD hcode0 hDl
  have hDb : ∀ i, i < L.length → 0 ≤ gI (tickDone done e') i ∧ gI (tickDone done e') i ≤ 1001 := by
    intro i hi
    have h1 := hb i hi
    unfold tickDone; split
    · rw [← Int.toNat_of_nonneg (show 0 ≤ e' by assumption)]
      by_cases h2 : e'.toNat < done.length
      · have h3 := hb e'.toNat (by omega)
        rw [Int.toNat_natCast, gI_set h2]
        split <;> omega
      · rw [List.set_eq_of_length_le (by omega)]; omega
    · omega
  rcases good with rfl | ⟨n, rfl, hn, hr⟩
  all_goals
    first
    | (simp only [not_true_eq_false, not_false_eq_true, decide_true, decide_false, Bool.not_true, Bool.not_false, false_implies, true_implies, and_true, true_and, Bool.false_eq_true, Bool.true_eq_false, implies_true, Bool.not_not, Classical.not_not, go_sem, Int.reduceToNat, List.take_nil, Nat.zero_mul, Nat.reduceEqDiff, Nat.reduceAdd, Nat.reduceLT, Nat.reduceLeDiff, Nat.reduceMul, ↓reduceIte, reduceCtorEq]; refine impl_edf_ hm (by omega) ?_)
    | (refine ⟨fun _ => ⟨by omega, impl_in_ _ _ _ ?_⟩, fun h => absurd h (by omega)⟩
       simp only [not_true_eq_false, not_false_eq_true, decide_true, decide_false, Bool.not_true, Bool.not_false, false_implies, true_implies, and_true, true_and, Bool.false_eq_true, Bool.true_eq_false, implies_true, Bool.not_not, Classical.not_not, go_sem, Int.reduceToNat, List.take_nil, Nat.zero_mul, Nat.reduceEqDiff, Nat.reduceAdd, Nat.reduceLT, Nat.reduceLeDiff, Nat.reduceMul, ↓reduceIte, reduceCtorEq]
       refine ⟨fun _ => impl_machine_ready_ hm n hn ?_, fun h => absurd (by omega) h⟩
       simp only [hr, not_true_eq_false, not_false_eq_true, decide_true, decide_false, Bool.not_true, Bool.not_false, false_implies, true_implies, and_true, true_and, Bool.false_eq_true, Bool.true_eq_false, implies_true, Bool.not_not, Classical.not_not, go_sem, Int.reduceToNat, List.take_nil, Nat.zero_mul, Nat.reduceEqDiff, Nat.reduceAdd, Nat.reduceLT, Nat.reduceLeDiff, Nat.reduceMul, ↓reduceIte, reduceCtorEq]
       refine impl_edf_ hm (by omega) ?_)
    simp only [not_true_eq_false, not_false_eq_true, decide_true, decide_false, Bool.not_true, Bool.not_false, false_implies, true_implies, and_true, true_and, Bool.false_eq_true, Bool.true_eq_false, implies_true, Bool.not_not, Classical.not_not, go_sem, Int.reduceToNat, List.take_nil, Nat.zero_mul, Nat.reduceEqDiff, Nat.reduceAdd, Nat.reduceLT, Nat.reduceLeDiff, Nat.reduceMul, ↓reduceIte, reduceCtorEq]
    refine seq_join (fun _ : Unit => ⟨[(0, .p 4 0)], [.ro (encTask.row S), .ro (encJob.row L), .ro (encInt.row R), .rw ty_int (encInt.row (tickDone done e')) L.length, .rw ty_impl_machine [.sl 1 0 L.length c, .sl 3 0 L.length L.length, .i .i64 now] 3]⟩)
      (fun _ => chkCode L now done e' = if lateNow L now (tickDone done e') = true then 6 else 0) ?_ fun _ hcc => ?_
    · first
      | (have et : tickDone done e' = done := by rw [he]; exact if_neg (by decide)
         have h01 : ¬ (0 : Int) ≤ -1 := by decide
         simp only [et, h01, not_true_eq_false, not_false_eq_true, decide_true, decide_false, Bool.not_true, Bool.not_false, false_implies, true_implies, and_true, true_and, Bool.false_eq_true, Bool.true_eq_false, implies_true, Bool.not_not, Classical.not_not, go_sem, Int.reduceToNat, List.take_nil, Nat.zero_mul, Nat.reduceEqDiff, Nat.reduceAdd, Nat.reduceLT, Nat.reduceLeDiff, Nat.reduceMul, ↓reduceIte, reduceCtorEq]
         refine ⟨fun h4 => ?_, fun h4 => ?_⟩
         · have hcode := hcode0.trans (if_pos ⟨he, h4⟩)
           rw [he] at hcode
           have hk4 := hk done hd (fun h => by rw [hcode] at h; cases h)
           rw [hcode] at hk4
           exact Fin.pick [0, 1, 2, 3, 4] (.i .i64 4) _ hk4
         · refine kJ_intro () ?_ (Wk.pick [0, 1, 2, 3, 4])
           rw [hcode0, if_neg (fun h => h4 h.2), if_neg (fun h => by have := h.1; omega), et])
      | (rcases hbr with ⟨_, hno⟩ | ⟨k, hkb, hkl, hkr, hmin, _⟩
         · exact absurd hr (by rw [hno n hn]; decide)
         have hnd : n < done.length := by omega
         have et : tickDone done e' = done.set n (done[n] + 1) := by
           rw [he]
           unfold tickDone
           rw [if_pos (by omega), gI_row' hnd]; simp
         have hbn := hb n hn
         rw [gI_row' hnd] at hbn
         simp only [hkb, et, not_true_eq_false, not_false_eq_true, decide_true, decide_false, Bool.not_true, Bool.not_false, false_implies, true_implies, and_true, true_and, Bool.false_eq_true, Bool.true_eq_false, implies_true, Bool.not_not, Classical.not_not, go_sem, Int.reduceToNat, List.take_nil, Nat.zero_mul, Nat.reduceEqDiff, Nat.reduceAdd, Nat.reduceLT, Nat.reduceLeDiff, Nat.reduceMul, ↓reduceIte, reduceCtorEq]
         refine impl_machine_deadline_ hm k hkl ?_
         simp only [not_true_eq_false, not_false_eq_true, decide_true, decide_false, Bool.not_true, Bool.not_false, false_implies, true_implies, and_true, true_and, Bool.false_eq_true, Bool.true_eq_false, implies_true, Bool.not_not, Classical.not_not, go_sem, Int.reduceToNat, List.take_nil, Nat.zero_mul, Nat.reduceEqDiff, Nat.reduceAdd, Nat.reduceLT, Nat.reduceLeDiff, Nat.reduceMul, ↓reduceIte, reduceCtorEq]
         refine impl_machine_deadline_ hm n hn ?_
         have hnn : ((n : Nat) : Int).toNat = n := Int.toNat_natCast n
         rw [hkb] at hcode0
         simp only [Int.toNat_natCast, rdI hnd, splI hnd, lenI, hd, not_true_eq_false, not_false_eq_true, decide_true, decide_false, Bool.not_true, Bool.not_false, false_implies, true_implies, and_true, true_and, Bool.false_eq_true, Bool.true_eq_false, implies_true, Bool.not_not, Classical.not_not, go_sem, Int.reduceToNat, List.take_nil, Nat.zero_mul, Nat.reduceEqDiff, Nat.reduceAdd, Nat.reduceLT, Nat.reduceLeDiff, Nat.reduceMul, ↓reduceIte, reduceCtorEq]
         refine ⟨fun h5 => ?_, fun h5 => ?_⟩
         · have hcode := hcode0.trans ((if_neg (fun h => by have := h.1; omega)).trans (if_pos ⟨by omega, by rw [he, Int.toNat_natCast, Int.toNat_natCast]; exact h5⟩))
           rw [he] at hcode
           have hk5 := hk done hd (fun h => by rw [hcode] at h; cases h)
           rw [hcode] at hk5
           exact Fin.pick [0, 1, 2, 3, 4] (.i .i64 5) _ hk5
         · refine ⟨hn, hn, by omega, hn, by omega, kJ_intro () ?_ (Wk.pick [0, 1, 2, 3, 4])⟩
           have h6 : ¬ (0 ≤ e' ∧ (L.getD ((k : Nat) : Int).toNat default).D < (L.getD e'.toNat default).D) := fun h => by
             have := h.2
             rw [he, Int.toNat_natCast, Int.toNat_natCast] at this
             exact h5 this
           rw [hcode0, if_neg (fun h => by have := h.1; omega), if_neg h6, et])
    · have hkE : K (.i .i64 (if lateNow L now (tickDone done e') = true then 6 else 0)) [.ro (encTask.row S), .ro (encJob.row L), .ro (encInt.row R), .rw ty_int (encInt.row (tickDone done e')) L.length, .rw ty_impl_machine [.sl 1 0 L.length c, .sl 3 0 L.length L.length, .i .i64 now] 3] := by
        rw [hcc] at hkD; exact hkD
      generalize tickDone done e' = D at hkE hDl hDb ⊢
      simp only [not_true_eq_false, not_false_eq_true, decide_true, decide_false, Bool.not_true, Bool.not_false, false_implies, true_implies, and_true, true_and, Bool.false_eq_true, Bool.true_eq_false, implies_true, Bool.not_not, Classical.not_not, go_sem, Int.reduceToNat, List.take_nil, Nat.zero_mul, Nat.reduceEqDiff, Nat.reduceAdd, Nat.reduceLT, Nat.reduceLeDiff, Nat.reduceMul, ↓reduceIte, reduceCtorEq]
      refine loop_count L.length (fun k => ⟨[(0, .p 4 0), (63, .sl 1 0 L.length c), (64, .i .i64 L.length), (65, .i .i64 k)], [.ro (encTask.row S), .ro (encJob.row L), .ro (encInt.row R), .rw ty_int (encInt.row D) L.length, .rw ty_impl_machine [.sl 1 0 L.length c, .sl 3 0 L.length L.length, .i .i64 now] 3]⟩)
        (fun k => ∀ i, i < k → ¬ ((L.getD i default).D = now + 1 ∧ gI D i < (L.getD i default).E)) (fun i hi => by omega) (Wk.pick [0, 1, 2, 3, 4]) fun k hk2 hJ => ?_
      simp only [l0_impl_machine_checkTick, not_true_eq_false, not_false_eq_true, decide_true, decide_false, Bool.not_true, Bool.not_false, false_implies, true_implies, and_true, true_and, Bool.false_eq_true, Bool.true_eq_false, implies_true, Bool.not_not, Classical.not_not, go_sem, Int.reduceToNat, List.take_nil, Nat.zero_mul, Nat.reduceEqDiff, Nat.reduceAdd, Nat.reduceLT, Nat.reduceLeDiff, Nat.reduceMul, ↓reduceIte, reduceCtorEq]
      refine ⟨fun hlt => ?_, fun hge => ?_⟩
      · have hkd : k < D.length := by omega
        have gL : L.getD k default = L[k] := by simp [List.getD_eq_getElem?_getD, hlt]
        have gD : gI D k = D[k] := gI_row' hkd
        have hn1 : ¬ (L[k].D = (now : Int) + 1 ∧ D[k] < L[k].E) → ∀ i, i < k + 1 → ¬ ((L.getD i default).D = now + 1 ∧ gI D i < (L.getD i default).E) := fun hno i hi => by
          rcases Nat.lt_succ_iff_lt_or_eq.1 hi with h1 | h1
          · exact hJ i h1
          · subst h1; rw [gL, gD]; exact hno
        have hy1 : L[k].D = (now : Int) + 1 ∧ D[k] < L[k].E → lateNow L now D = true := fun h => lateNow_iff.2 ⟨k, hlt, by rw [gL]; exact h.1, by rw [gL, gD]; exact h.2⟩
        simp only [winJ hlt, encJ, rdI hkd, lenI, lenJ, hDl, not_true_eq_false, not_false_eq_true, decide_true, decide_false, Bool.not_true, Bool.not_false, false_implies, true_implies, and_true, true_and, Bool.false_eq_true, Bool.true_eq_false, implies_true, Bool.not_not, Classical.not_not, go_sem, Int.reduceToNat, List.take_nil, Nat.zero_mul, Nat.reduceEqDiff, Nat.reduceAdd, Nat.reduceLT, Nat.reduceLeDiff, Nat.reduceMul, ↓reduceIte, reduceCtorEq]
        refine ⟨hlt, by omega, by omega, fun g1 => ⟨hlt, hlt, fun g2 => ?_, fun g2 => ⟨by omega, ⟨hlt, hn1 (fun h => g2 h.2)⟩, Wk.pick [0, 1, 2, 3, 4]⟩⟩, fun g1 => ⟨by omega, ⟨hlt, hn1 (fun h => g1 h.1)⟩, Wk.pick [0, 1, 2, 3, 4]⟩⟩
        rw [if_pos (hy1 ⟨g1, g2⟩)] at hkE
        exact Fin.pick [0, 1, 2, 3, 4] (.i .i64 6) _ hkE
      · have hno : ¬ lateNow L now D = true := fun h => by
          obtain ⟨i, hi, h1, h2⟩ := lateNow_iff.1 h
          exact hJ i (by omega) ⟨h1, h2⟩
        rw [if_neg hno] at hkE
        exact Fin.pick [0, 1, 2, 3, 4] (.i .i64 0) _ hkE

theorem chkDone_bound (L : List Job) (run : List Int) : ∀ (k i : Nat), i < L.length → 0 ≤ gI (chkDone L run k) i ∧ gI (chkDone L run k) i ≤ k
  | 0, i, hi => by
    rw [show gI (chkDone L run 0) i = 0 from gI_rep _ _ _ hi]; omega
  | k + 1, i, hi => by
    have ih := chkDone_bound L run k
    have hl := chkDone_length L run k
    have h1 := ih i hi
    simp only [chkDone, tickDone]
    split
    · rename_i he
      obtain ⟨n, hn⟩ := Int.eq_ofNat_of_zero_le he
      rw [hn, Int.toNat_natCast]
      by_cases h2 : n < (chkDone L run k).length
      · have h3 := ih n (by omega)
        rw [gI_set h2]
        split <;> omega
      · rw [List.set_eq_of_length_le (by omega)]; omega
    · omega

def ChkG (S : List Task) (L : List Job) (R : List Int) (x : AV) (τ : List AB) : Prop := τ = [] ∧ ∃ c a, ChkR S L R c a ∧ x = .tup [.i .i64 c, .i .i64 a]
theorem ChkG.fr {S : List Task} {L : List Job} {R : List Int} {N : Nat} {x : AV} {τ : List AB} (h : ChkG S L R x τ) : τ.all plainRw = true ∧ freshA N x = true := by
  obtain ⟨rfl, c, a, _, rfl⟩ := h
  exact ⟨rfl, rfl⟩

theorem impl_CheckSchedule0 (S : List Task) (L : List Job) (R : List Int) (hs : S.length ≤ 1048576) (hl : L.length ≤ 1048576) (hr : R.length ≤ 1048576) (c c' c3 : Nat) : CallWp Try.prog n_impl_CheckSchedule [.sl 0 0 S.length c, .sl 1 0 L.length c', .sl 2 0 R.length c3] [.ro (encTask.row S), .ro (encJob.row L), .ro (encInt.row R)]
    (fun x σ' => ∃ τ, σ' = [.ro (encTask.row S), .ro (encJob.row L), .ro (encInt.row R)] ++ τ ∧ ChkG S L R x τ) := by
  refine call_impl_CheckSchedule (by simp) ?_
  simp only [c_impl_CheckSchedule, go_sem, Int.reduceToNat, List.take_nil, Nat.zero_mul, Nat.reduceEqDiff, Nat.reduceAdd, Nat.reduceLT, Nat.reduceLeDiff, Nat.reduceMul, ↓reduceIte, reduceCtorEq]
  refine impl_JobsLegal_ (S := S) (L := L) (by omega) (by omega) (Rd.own rfl) (Rd.own rfl) ?_
  simp only [not_true_eq_false, not_false_eq_true, decide_true, decide_false, Bool.not_true, Bool.not_false, false_implies, true_implies, and_true, true_and, Bool.false_eq_true, Bool.true_eq_false, implies_true, Bool.not_not, Classical.not_not, go_sem, Int.reduceToNat, List.take_nil, Nat.zero_mul, Nat.reduceEqDiff, Nat.reduceAdd, Nat.reduceLT, Nat.reduceLeDiff, Nat.reduceMul, ↓reduceIte, reduceCtorEq]
  refine ⟨fun h1 => ?_, fun h1 => ?_⟩
  · exact Fin.plain ⟨[], rfl, rfl, _, _, .inl ⟨h1, rfl, rfl⟩, rfl⟩
  refine ⟨fun h2 => ?_, fun h2 => ?_⟩
  · exact Fin.plain ⟨[], rfl, rfl, _, _, .inr (.inl ⟨h1, by omega, rfl, rfl⟩), rfl⟩
  have h60 := h1.2.1.1
  have hR : R.length = 120 := by omega
  refine impl_newMachine_ (j := 1) (len := L.length) (by omega) ?_
  simp only [not_true_eq_false, not_false_eq_true, decide_true, decide_false, Bool.not_true, Bool.not_false, false_implies, true_implies, and_true, true_and, Bool.false_eq_true, Bool.true_eq_false, implies_true, Bool.not_not, Classical.not_not, go_sem, Int.reduceToNat, List.take_nil, Nat.zero_mul, Nat.reduceEqDiff, Nat.reduceAdd, Nat.reduceLT, Nat.reduceLeDiff, Nat.reduceMul, ↓reduceIte, reduceCtorEq]
  refine loop_count 120 (fun k => ⟨[(2, .sl 2 0 R.length c3), (8, .p 4 0)], [.ro (encTask.row S), .ro (encJob.row L), .ro (encInt.row R), .rw ty_int (encInt.row (chkDone L R k)) L.length, .rw ty_impl_machine [.sl 1 0 L.length c', .sl 3 0 L.length L.length, .i .i64 k] 3]⟩)
    (fun k => ∀ u, u < k → codeAt L R u = 0) (fun u hu => by omega) (Wk.pick [0, 1, 2, 3, 4]) fun k hk hJ => ?_
  simp only [l0_impl_CheckSchedule, not_true_eq_false, not_false_eq_true, decide_true, decide_false, Bool.not_true, Bool.not_false, false_implies, true_implies, and_true, true_and, Bool.false_eq_true, Bool.true_eq_false, implies_true, Bool.not_not, Classical.not_not, go_sem, Int.reduceToNat, List.take_nil, Nat.zero_mul, Nat.reduceEqDiff, Nat.reduceAdd, Nat.reduceLT, Nat.reduceLeDiff, Nat.reduceMul, ↓reduceIte, reduceCtorEq]
  refine ⟨fun hlt => ?_, fun hge => ?_⟩
  · have hkR : k < R.length := by omega
    have hlen := chkDone_length L R k
    simp only [rdI hkR, lenI, not_true_eq_false, not_false_eq_true, decide_true, decide_false, Bool.not_true, Bool.not_false, false_implies, true_implies, and_true, true_and, Bool.false_eq_true, Bool.true_eq_false, implies_true, Bool.not_not, Classical.not_not, go_sem, Int.reduceToNat, List.take_nil, Nat.zero_mul, Nat.reduceEqDiff, Nat.reduceAdd, Nat.reduceLT, Nat.reduceLeDiff, Nat.reduceMul, ↓reduceIte, reduceCtorEq]
    have hg : gI R k = R[k] := gI_row' hkR
    have hck : codeAt L R k = chkCode L k (chkDone L R k) R[k] := by unfold codeAt; rw [hg]
    have hdk : chkDone L R (k + 1) = tickDone (chkDone L R k) R[k] := by rw [← hg]; rfl
    refine ⟨hkR, hkR, impl_machine_checkTick_ (by omega) (by omega) hlen (fun i hi => by have := chkDone_bound L R k i hi; omega) fun d hd hdt => ?_⟩
    rw [← hck, ← hdk] at hdt
    rw [← hck]
    have hrg : codeAt L R k = 0 ∨ (3 ≤ codeAt L R k ∧ codeAt L R k ≤ 6) := chkCode_range _ _ _ _
    have hres : codeAt L R k ≠ 0 → ChkR S L R (codeAt L R k) k := fun h => .inr (.inr ⟨h1, hR, .inr ⟨k, by omega, rfl, h, rfl, hJ⟩⟩)
    have hJ1 : codeAt L R k = 0 → ∀ u, u < k + 1 → codeAt L R u = 0 := fun h u hu => by
      rcases Nat.lt_succ_iff_lt_or_eq.1 hu with h3 | h3
      · exact hJ u h3
      · rw [h3]; exact h
    generalize codeAt L R k = cd at *
    simp only [not_true_eq_false, not_false_eq_true, decide_true, decide_false, Bool.not_true, Bool.not_false, false_implies, true_implies, and_true, true_and, Bool.false_eq_true, Bool.true_eq_false, implies_true, Bool.not_not, Classical.not_not, go_sem, Int.reduceToNat, List.take_nil, Nat.zero_mul, Nat.reduceEqDiff, Nat.reduceAdd, Nat.reduceLT, Nat.reduceLeDiff, Nat.reduceMul, ↓reduceIte, reduceCtorEq]
    refine ⟨fun h => ?_, fun h => ?_⟩
    · exact Fin.pick [0, 1, 2] (.tup [.i .i64 cd, .i .i64 k]) [.ro (encTask.row S), .ro (encJob.row L), .ro (encInt.row R)] ⟨[], rfl, rfl, cd, k, hres h, rfl⟩
    · have h0 : cd = 0 := by omega
      rw [← hdt h0, show ((k + 1 : Nat) : Int) = (k : Int) + 1 by omega]
      exact ⟨by omega, ⟨by omega, hJ1 h0⟩, Wk.pick [0, 1, 2, 3, 4]⟩
  · exact Fin.pick [0, 1, 2] (.tup [.i .i64 0, .i .i64 0]) [.ro (encTask.row S), .ro (encJob.row L), .ro (encInt.row R)] ⟨[], rfl, rfl, 0, 0, .inr (.inr ⟨h1, hR, .inl ⟨rfl, rfl, fun t ht => hJ t (by omega)⟩⟩), rfl⟩

theorem impl_CheckSchedule_ {S : List Task} {L : List Job} {R : List Int} {v u z : AV} {σ : List AB} {K : AV → List AB → Prop} (hs : S.length ≤ 1048576) (hl : L.length ≤ 1048576) (hr : R.length ≤ 1048576) (h1 : Rd encTask σ v S) (h2 : Rd encJob σ u L) (h3 : Rd encInt σ z R)
    (hk : ∀ c a, ChkR S L R c a → K (.tup [.i .i64 c, .i .i64 a]) σ) : CallWp Try.prog n_impl_CheckSchedule [v, u, z] σ K := by
  refine call_news _ (rds_cons h1.r (rds_cons h2.r (rds1 h3.r))) (fun c => [.sl 0 0 S.length (c 0), .sl 1 0 L.length (c 1), .sl 2 0 R.length (c 2)]) (ChkG S L R) (fun c => impl_CheckSchedule0 S L R hs hl hr (c 0) (c 1) (c 2)) (fun _ _ h => h.fr) (fun ν c h => ⟨h.1, h.2.1, h.2.2.1, trivial⟩) (fun _ => rfl) ?_
  rintro x τ ⟨rfl, c, a, h, rfl⟩
  rw [List.append_nil]; exact hk c a h
end Go.Proofs.Ytgnlibnnpipbhaa
