import Derived.Test.YtmphblbpofnpaaaS7
namespace Go.Proofs.Ytmphblbpofnpaaa
open Go.Abs Go.Ds
set_option linter.unusedSimpArgs false
set_option linter.unusedVariables false
set_option maxRecDepth 20000
theorem simU_none (ks : List Int) : ∀ k, (simU [] (keyPick [] ks) k).run = List.replicate k (-1) ∧ (simU [] (keyPick [] ks) k).fin = []
  | 0 => ⟨rfl, rfl⟩
  | k + 1 => by
    obtain ⟨h1, h2⟩ := simU_none ks k
    have hp : keyPick [] ks k (simU [] (keyPick [] ks) k).done = -1 := rfl
    obtain ⟨_, e2, e3⟩ := simU_neg (L := []) (pick := keyPick [] ks) (k := k) (by rw [hp]; decide)
    rw [e2, e3, h1, h2, hp]
    exact ⟨by rw [List.replicate_succ'], rfl⟩
def runN (c c' : Nat) : Option (Nat × Nat) → St
  | none => ⟨[(0, .sl 0 0 0 c), (1, .sl 1 0 0 c'), (4, .p 2 0), (5, .p 3 0), (6, .sl 4 0 0 0), (8, .i .i64 0)], [.ro [], .ro [], .rw ty_impl_Schedule [.sn, .sn] 2, .rw ty_impl_Schedule [.sn, .sn] 2, .rw ty_int [] 0]⟩
  | some (c3, k) => ⟨[(0, .sl 0 0 0 c), (1, .sl 1 0 0 c'), (4, .p 2 0), (5, .p 3 0), (6, .sl 4 0 0 0), (8, .i .i64 k)], [.ro [], .ro [], .rw ty_impl_Schedule [.sn, .sn] 2, .rw ty_impl_Schedule [.sl 5 0 k c3, .sn] 2, .rw ty_int [] 0, .rw ty_int (encInt.row (List.replicate k (-1))) c3]⟩
theorem spec_l3Run_nil (c c' : Nat) : CallWp Try.prog n_spec_l3Run [.sl 0 0 0 c, .sl 1 0 0 c'] [.ro [], .ro []]
      (fun x σ' => ∃ τ, σ' = [.ro [], .ro []] ++ τ ∧ SchedQ 2 True (List.replicate 120 (-1)) [] x τ) := by
  refine call_spec_l3Run (by simp) ?_
  simp only [c_spec_l3Run, not_true_eq_false, not_false_eq_true, decide_true, decide_false, Bool.not_true, Bool.not_false, false_implies, true_implies, and_true, true_and, Bool.false_eq_true, Bool.true_eq_false, implies_true, Bool.not_not, Classical.not_not, go_sem, Int.reduceToNat, List.take_nil, Nat.zero_mul, Nat.reduceEqDiff, Nat.reduceAdd, Nat.reduceLT, Nat.reduceLeDiff, Nat.reduceMul, ↓reduceIte, reduceCtorEq]
  refine loop_intro (fun _ : Unit => ⟨[(0, .sl 0 0 0 c), (1, .sl 1 0 0 c'), (4, .p 2 0), (5, .p 3 0), (6, .sl 4 0 0 0), (7, .i .i64 0)], [.ro [], .ro [], .rw ty_impl_Schedule [.sn, .sn] 2, .rw ty_impl_Schedule [.sn, .sn] 2, .rw ty_int [] 0]⟩) (fun _ => True) (fun _ => 0) () trivial (Wk.pick [0, 1, 2, 3, 4]) fun _ _ => ?_
  simp only [l1_spec_l3Run, not_true_eq_false, not_false_eq_true, decide_true, decide_false, Bool.not_true, Bool.not_false, false_implies, true_implies, and_true, true_and, Bool.false_eq_true, Bool.true_eq_false, implies_true, Bool.not_not, Classical.not_not, go_sem, Int.reduceToNat, List.take_nil, Nat.zero_mul, Nat.reduceEqDiff, Nat.reduceAdd, Nat.reduceLT, Nat.reduceLeDiff, Nat.reduceMul, ↓reduceIte, reduceCtorEq]
  refine ⟨fun h => absurd h (by decide), fun _ => ?_⟩
  refine loop_intro (runN c c') (fun i => match i with | none => True | some (_, k) => 1 ≤ k ∧ k ≤ 120) (fun i => match i with | none => 120 | some (_, k) => 120 - k) none trivial (Wk.pick [0, 1, 2, 3, 4]) ?_
  have hb : ∀ {u v w : AV} {σ : List AB} {now : Nat}, now ≤ 120 → Rd encJob σ u [] → Rd encInt σ v [] → Rd encInt σ w [] → ∀ {K : AV → List AB → Prop}, K (.i .i64 (-1)) σ → CallWp Try.prog n_spec_l3Best [u, v, w, .i .i64 now] σ K :=
    fun hn a1 a2 a3 K hk => spec_l3Best_ (by omega) (by simp) rfl rfl a1 a2 a3 hk
  rintro (_ | ⟨c3, k⟩) hk
  · simp only [l0_spec_l3Run, runN, not_true_eq_false, not_false_eq_true, decide_true, decide_false, Bool.not_true, Bool.not_false, false_implies, true_implies, and_true, true_and, Bool.false_eq_true, Bool.true_eq_false, implies_true, Bool.not_not, Classical.not_not, go_sem, Int.reduceToNat, List.take_nil, Nat.zero_mul, Nat.reduceEqDiff, Nat.reduceAdd, Nat.reduceLT, Nat.reduceLeDiff, Nat.reduceMul, ↓reduceIte, reduceCtorEq]
    refine ⟨fun _ => ?_, fun h => absurd (by decide) h⟩
    refine hb (now := 0) (by omega) (Rd.own (L := []) rfl) (Rd.own (L := []) rfl) (Rd.own (L := []) rfl) ?_
    simp only [lenI, not_true_eq_false, not_false_eq_true, decide_true, decide_false, Bool.not_true, Bool.not_false, false_implies, true_implies, and_true, true_and, Bool.false_eq_true, Bool.true_eq_false, implies_true, Bool.not_not, Classical.not_not, go_sem, Int.reduceToNat, List.take_nil, Nat.zero_mul, Nat.reduceEqDiff, Nat.reduceAdd, Nat.reduceLT, Nat.reduceLeDiff, Nat.reduceMul, ↓reduceIte, reduceCtorEq]
    refine fun c3 hc3 => ⟨fun h => absurd h (by decide), fun _ => ⟨by omega, some (c3, 1), ⟨by simp only; omega, by simp only; omega⟩, ?_⟩⟩
    have e2 : encInt.row (List.replicate 1 (-1)) = [AV.i .i64 (-1)] := rfl
    simp only [e2]
    exact Wk.pickR [0, 1, 2, 3, 4, 6]
  · simp only at hk
    simp only [l0_spec_l3Run, runN, not_true_eq_false, not_false_eq_true, decide_true, decide_false, Bool.not_true, Bool.not_false, false_implies, true_implies, and_true, true_and, Bool.false_eq_true, Bool.true_eq_false, implies_true, Bool.not_not, Classical.not_not, go_sem, Int.reduceToNat, List.take_nil, Nat.zero_mul, Nat.reduceEqDiff, Nat.reduceAdd, Nat.reduceLT, Nat.reduceLeDiff, Nat.reduceMul, ↓reduceIte, reduceCtorEq]
    refine ⟨fun hlt => ?_, fun hge => ?_⟩
    · refine hb (by omega) (Rd.own (L := []) rfl) (Rd.own (L := []) rfl) (Rd.own (L := []) rfl) ?_
      simp only [lenI, not_true_eq_false, not_false_eq_true, decide_true, decide_false, Bool.not_true, Bool.not_false, false_implies, true_implies, and_true, true_and, Bool.false_eq_true, Bool.true_eq_false, implies_true, Bool.not_not, Classical.not_not, go_sem, Int.reduceToNat, List.take_nil, Nat.zero_mul, Nat.reduceEqDiff, Nat.reduceAdd, Nat.reduceLT, Nat.reduceLeDiff, Nat.reduceMul, ↓reduceIte, reduceCtorEq]
      refine ⟨by simp; omega, fun d3 hd3 => ⟨fun h => absurd h (by decide), fun _ => ⟨by omega, some (d3, k + 1), ⟨by simp only; omega, by simp only; omega⟩, ?_⟩⟩⟩
      have e2 : List.take k (encInt.row (List.replicate k (-1))) ++ [AV.i IntKind.i64 (-1)] = encInt.row (List.replicate (k + 1) (-1)) := by
        rw [List.take_of_length_le (by simp [lenI]), appI, ← List.replicate_succ']
      simp only [e2]
      exact Wk.pickR [0, 1, 2, 3, 4, 7]
    · have ek : k = 120 := by omega
      subst ek
      exact Fin.pickR [0, 1, 5] (.agg [.sl 2 0 120 c3, .sn]) [.ro [], .ro [], .rw ty_int (encInt.row (List.replicate 120 (-1))) c3] ⟨_, rfl, .inr ⟨trivial, c3, 0, .inr ⟨rfl, rfl, rfl⟩⟩⟩
theorem SchedQ.mono {N : Nat} {p q : Prop} {run fin : List Int} {x : AV} {τ : List AB} (h : SchedQ N p run fin x τ) (hp : p) (hq : q) : SchedQ N q run fin x τ := by
  rcases h with ⟨h1, _⟩ | ⟨_, h⟩
  · exact absurd hp h1
  · exact .inr ⟨hq, h⟩
theorem spec_l3Run_ {L : List Job} {ks : List Int} (hl : L.length ≤ 1000) (h2 : ks.length = L.length) (hE : ∀ j ∈ L, 0 ≤ j.E ∧ j.E ≤ 1000) {v u : AV} {σ : List AB} (a1 : Rd encJob σ v L) (a2 : Rd encInt σ u ks) {K : AV → List AB → Prop}
    (hk : ∀ x τ, SchedQ σ.length True (simU L (keyPick L ks) 120).run (simU L (keyPick L ks) 120).fin x τ → K x (σ ++ τ)) : CallWp Try.prog n_spec_l3Run [v, u] σ K := by
  refine call_news _ (rds_cons a1.r (rds1 a2.r)) (fun c => [.sl 0 0 L.length (c 0), .sl 1 0 ks.length (c 1)]) (SchedQ 2 True (simU L (keyPick L ks) 120).run (simU L (keyPick L ks) 120).fin) (fun c => ?_) (fun _ _ h => h.fr) (fun ν c h => ⟨h.1, h.2.1, trivial⟩) (fun _ => rfl) ?_
  · by_cases hne : 0 < L.length
    · exact spec_l3Run_cons L ks hl hne h2 hE (c 0) (c 1)
    · obtain rfl := List.eq_nil_of_length_eq_zero (show L.length = 0 by omega)
      obtain rfl := List.eq_nil_of_length_eq_zero (show ks.length = 0 by simpa using h2)
      obtain ⟨e1, e2⟩ := simU_none [] 120
      rw [e1, e2]
      exact spec_l3Run_nil (c 0) (c 1)
  · rintro x τ (⟨hno, _⟩ | ⟨_, c1, c2, ⟨h, rfl, rfl⟩ | ⟨h, rfl, rfl⟩⟩)
    · exact absurd trivial hno
    · exact hk _ _ (.inr ⟨trivial, c1, c2, .inl ⟨h, rfl, rfl⟩⟩)
    · exact hk _ _ (.inr ⟨trivial, c1, c2, .inr ⟨h, rfl, rfl⟩⟩)
theorem edf_key (L : List Job) : keyPick L (L.map Job.D) = edfPick L := by
  funext now done
  refine bestF_congr (fun _ _ => rfl) fun i hi => ?_
  simp [gI, List.getD_eq_getElem?_getD, hi]
theorem SchedQ.bel {N : Nat} {p : Prop} {run fin : List Int} {x : AV} {τ : List AB} (h : SchedQ N p run fin x τ) : τ.length ≤ 2 := by
  rcases h with ⟨_, _, rfl⟩ | ⟨_, c1, c2, ⟨_, _, rfl⟩ | ⟨_, _, rfl⟩⟩ <;> simp
theorem spec_RunEdf0 (S : List Task) (L : List Job) (hs : S.length ≤ 1048576) (hl : L.length ≤ 1048576) (c c' : Nat) : CallWp Try.prog n_spec_RunEdf [.sl 0 0 S.length c, .sl 1 0 L.length c'] [.ro (encTask.row S), .ro (encJob.row L)]
    (fun x σ' => ∃ τ, σ' = [.ro (encTask.row S), .ro (encJob.row L)] ++ τ ∧ SchedQ 2 (jobsLegal S L) (edfRun L) (edfFin L) x τ) := by
  refine call_spec_RunEdf (by simp) ?_
  simp only [c_spec_RunEdf, go_sem, Int.reduceToNat, List.take_nil, Nat.zero_mul, Nat.reduceEqDiff, Nat.reduceAdd, Nat.reduceLT, Nat.reduceLeDiff, Nat.reduceMul, ↓reduceIte, reduceCtorEq]
  refine spec_JobsLegal_ (S := S) (L := L) (by omega) (by omega) (Rd.own rfl) (Rd.own rfl) ?_
  simp only [not_true_eq_false, not_false_eq_true, decide_true, decide_false, Bool.not_true, Bool.not_false, false_implies, true_implies, and_true, true_and, Bool.false_eq_true, Bool.true_eq_false, implies_true, Bool.not_not, Classical.not_not, go_sem, Int.reduceToNat, List.take_nil, Nat.zero_mul, Nat.reduceEqDiff, Nat.reduceAdd, Nat.reduceLT, Nat.reduceLeDiff, Nat.reduceMul, ↓reduceIte, reduceCtorEq]
  refine ⟨fun h1 => ?_, fun h1 => ?_⟩
  · exact Fin.pick [0, 1] (.agg [.sn, .sn]) _ ⟨[], rfl, .inl ⟨h1, rfl, rfl⟩⟩
  · have h60 := h1.2.1.1
    refine spec_l3Deadlines_ (L := L) (by omega) (Rd.own rfl) fun cap => ?_
    simp only [go_sem, Int.reduceToNat, List.take_nil, Nat.zero_mul, Nat.reduceEqDiff, Nat.reduceAdd, Nat.reduceLT, Nat.reduceLeDiff, Nat.reduceMul, ↓reduceIte, reduceCtorEq]
    have hE : ∀ j ∈ L, 0 ≤ j.E ∧ j.E ≤ 1000 := fun j hj => by
      have h2 := h1.2.1.mem hj
      have t1 := gT_ok h1.1 h2.1.1 h2.1.2
      unfold Task.ok at t1
      have h3 : costOf S j.T = (gT S j.T).C := rfl
      omega
    refine spec_l3Run_ (L := L) (ks := L.map Job.D) (by omega) (by simp) hE (Rd.own rfl) (Rd.len' rfl (by simp)) ?_
    rw [edf_key]
    rintro x τ (⟨hno, _⟩ | ⟨_, c1, c2, ⟨h, rfl, rfl⟩ | ⟨h, rfl, rfl⟩⟩)
    · exact absurd trivial hno
    · simp only [go_sem, Int.reduceToNat, List.take_nil, Nat.zero_mul, Nat.reduceEqDiff, Nat.reduceAdd, Nat.reduceLT, Nat.reduceLeDiff, Nat.reduceMul, ↓reduceIte, reduceCtorEq]
      exact Fin.pick [0, 1, 4, 5] (.agg [.sl 2 0 120 c1, .sl 3 0 (simU L (edfPick L) 120).fin.length c2]) _ ⟨_, rfl, .inr ⟨h1, c1, c2, .inl ⟨h, rfl, rfl⟩⟩⟩
    · simp only [go_sem, Int.reduceToNat, List.take_nil, Nat.zero_mul, Nat.reduceEqDiff, Nat.reduceAdd, Nat.reduceLT, Nat.reduceLeDiff, Nat.reduceMul, ↓reduceIte, reduceCtorEq]
      exact Fin.pick [0, 1, 4] (.agg [.sl 2 0 120 c1, .sn]) _ ⟨_, rfl, .inr ⟨h1, c1, c2, .inr ⟨h, rfl, rfl⟩⟩⟩
theorem spec_RunEdf_ {S : List Task} {L : List Job} (hs : S.length ≤ 1048576) (hl : L.length ≤ 1048576) {v u : AV} {σ : List AB} (h : Rd encTask σ v S) (h' : Rd encJob σ u L) {K : AV → List AB → Prop} (hn : ¬ jobsLegal S L → K (.agg [.sn, .sn]) σ)
    (hy : jobsLegal S L → ∀ x τ, SchedQ σ.length True (edfRun L) (edfFin L) x τ → K x (σ ++ τ)) : CallWp Try.prog n_spec_RunEdf [v, u] σ K := by
  refine call_news _ (rds_cons h.r (rds1 h'.r)) (fun c => [.sl 0 0 S.length (c 0), .sl 1 0 L.length (c 1)]) (SchedQ 2 (jobsLegal S L) (edfRun L) (edfFin L)) (fun c => spec_RunEdf0 S L hs hl (c 0) (c 1)) (fun _ _ h => h.fr) (fun ν c h => ⟨h.1, h.2.1, trivial⟩) (fun _ => rfl) ?_
  rintro x τ (⟨hno, rfl, rfl⟩ | ⟨hyes, c1, c2, ⟨h, rfl, rfl⟩ | ⟨h, rfl, rfl⟩⟩)
  · rw [List.append_nil]; exact hn hno
  · exact hy hyes _ _ (.inr ⟨trivial, c1, c2, .inl ⟨h, rfl, rfl⟩⟩)
  · exact hy hyes _ _ (.inr ⟨trivial, c1, c2, .inr ⟨h, rfl, rfl⟩⟩)
end Go.Proofs.Ytmphblbpofnpaaa
