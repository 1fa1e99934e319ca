import Derived.Test.YtdmoafmgeipenaaS11
namespace Go.Proofs.Ytdmoafmgeipenaa
open Go.Abs Go.Ds
set_option linter.unusedSimpArgs false
set_option linter.unusedVariables false
set_option maxRecDepth 20000
set_option maxHeartbeats 1000000
def runPN (f n : Int) (c capK : Nat) : Option (Nat × Nat) → St
  | none => ⟨[(0, .sl 0 0 0 c), (1, .i .i64 f), (2, .i .i64 n), (6, .p 1 0), (7, .p 2 0), (8, .sl 3 0 0 0), (9, .sl 4 0 0 capK), (11, .i .i64 0)], [.ro [], .rw ty_impl_Schedule [.sn, .sn] 2, .rw ty_impl_Schedule [.sn, .sn] 2, .rw ty_int [] 0, .rw ty_int [] capK]⟩
  | some (c3, k) => ⟨[(0, .sl 0 0 0 c), (1, .i .i64 f), (2, .i .i64 n), (6, .p 1 0), (7, .p 2 0), (8, .sl 3 0 0 0), (9, .sl 4 0 0 capK), (11, .i .i64 k)], [.ro [], .rw ty_impl_Schedule [.sn, .sn] 2, .rw ty_impl_Schedule [.sl 5 0 k c3, .sn] 2, .rw ty_int [] 0, .rw ty_int [] capK, .rw ty_int (encInt.row (List.replicate k (-1))) c3]⟩
theorem spec_l17Run_nil (f n : Int) (hfb : 0 ≤ f ∧ f ≤ 1000) (hnb : 0 ≤ n ∧ n ≤ 1000) (c : Nat) : CallWp Try.prog n_spec_l17Run [.sl 0 0 0 c, .i .i64 f, .i .i64 n] [.ro []]
      (fun x σ' => ∃ τ, σ' = [.ro []] ++ τ ∧ SchedQ 1 True (List.replicate 120 (-1)) [] x τ) := by
  refine call_spec_l17Run (by simp) ?_
  simp only [c_spec_l17Run, not_true_eq_false, not_false_eq_true, decide_true, decide_false, Bool.not_true, Bool.not_false, false_implies, true_implies, and_true, true_and, Bool.false_eq_true, Bool.true_eq_false, implies_true, Bool.not_not, Classical.not_not, go_sem, Int.reduceToNat, List.take_nil, Nat.zero_mul, Nat.reduceEqDiff, Nat.reduceAdd, Nat.reduceLT, Nat.reduceLeDiff, Nat.reduceMul, ↓reduceIte, reduceCtorEq]
  refine spec_l3Deadlines_ (L := []) (by simp) (Rd.own (L := []) rfl) fun capK => ?_
  simp only [List.map_nil, List.length_nil, show encInt.row [] = [] from rfl, not_true_eq_false, not_false_eq_true, decide_true, decide_false, Bool.not_true, Bool.not_false, false_implies, true_implies, and_true, true_and, Bool.false_eq_true, Bool.true_eq_false, implies_true, Bool.not_not, Classical.not_not, go_sem, Int.reduceToNat, List.take_nil, Nat.zero_mul, Nat.reduceEqDiff, Nat.reduceAdd, Nat.reduceLT, Nat.reduceLeDiff, Nat.reduceMul, ↓reduceIte, reduceCtorEq]
  refine loop_intro (fun _ : Unit => ⟨[(0, .sl 0 0 0 c), (1, .i .i64 f), (2, .i .i64 n), (6, .p 1 0), (7, .p 2 0), (8, .sl 3 0 0 0), (9, .sl 4 0 0 capK), (10, .i .i64 0)], [.ro [], .rw ty_impl_Schedule [.sn, .sn] 2, .rw ty_impl_Schedule [.sn, .sn] 2, .rw ty_int [] 0, .rw ty_int [] capK]⟩) (fun _ => True) (fun _ => 0) () trivial (Wk.pick [0, 1, 2, 3, 4]) fun _ _ => ?_
  simp only [l1_spec_l17Run, not_true_eq_false, not_false_eq_true, decide_true, decide_false, Bool.not_true, Bool.not_false, false_implies, true_implies, and_true, true_and, Bool.false_eq_true, Bool.true_eq_false, implies_true, Bool.not_not, Classical.not_not, go_sem, Int.reduceToNat, List.take_nil, Nat.zero_mul, Nat.reduceEqDiff, Nat.reduceAdd, Nat.reduceLT, Nat.reduceLeDiff, Nat.reduceMul, ↓reduceIte, reduceCtorEq]
  refine ⟨fun h => absurd h (by decide), fun _ => ?_⟩
  refine loop_intro (runPN f n c capK) (fun i => match i with | none => True | some (_, k) => 1 ≤ k ∧ k ≤ 120) (fun i => match i with | none => 120 | some (_, k) => 120 - k) none trivial (Wk.pick [0, 1, 2, 3, 4]) ?_
  have hb : ∀ {u v w : AV} {σ : List AB} {now : Nat}, now ≤ 120 → Rd encJob σ u [] → Rd encInt σ v [] → Rd encInt σ w [] → ∀ {K : AV → List AB → Prop}, K (.i .i64 (-1)) σ → CallWp Try.prog n_spec_l3Best [u, v, w, .i .i64 now] σ K :=
    fun hn a1 a2 a3 K hk => spec_l3Best_ (by omega) (by simp) rfl rfl a1 a2 a3 hk
  rintro (_ | ⟨c3, k⟩) hk
  · simp only [l0_spec_l17Run, runPN, not_true_eq_false, not_false_eq_true, decide_true, decide_false, Bool.not_true, Bool.not_false, false_implies, true_implies, and_true, true_and, Bool.false_eq_true, Bool.true_eq_false, implies_true, Bool.not_not, Classical.not_not, go_sem, Int.reduceToNat, List.take_nil, Nat.zero_mul, Nat.reduceEqDiff, Nat.reduceAdd, Nat.reduceLT, Nat.reduceLeDiff, Nat.reduceMul, ↓reduceIte, reduceCtorEq]
    refine ⟨fun _ => ?_, fun h => absurd (by decide) h⟩
    refine seq_join (fun _ : Unit => ⟨[(0, .sl 0 0 0 c), (1, .i .i64 f), (2, .i .i64 n), (6, .p 1 0), (7, .p 2 0), (8, .sl 3 0 0 0), (9, .sl 4 0 0 capK), (11, .i .i64 0), (12, .i .i64 (-1))], [.ro [], .rw ty_impl_Schedule [.sn, .sn] 2, .rw ty_impl_Schedule [.sn, .sn] 2, .rw ty_int [] 0, .rw ty_int [] capK]⟩) (fun _ => True) ?_ fun _ _ => ?_
    · have best : ∀ {K : AV → List AB → Prop}, K (.i .i64 (-1)) [.ro [], .rw ty_impl_Schedule [.sn, .sn] 2, .rw ty_impl_Schedule [.sn, .sn] 2, .rw ty_int [] 0, .rw ty_int [] capK] → CallWp Try.prog n_spec_l3Best [.sl 0 0 0 c, .sl 3 0 0 0, .sl 4 0 0 capK, .i .i64 0] [.ro [], .rw ty_impl_Schedule [.sn, .sn] 2, .rw ty_impl_Schedule [.sn, .sn] 2, .rw ty_int [] 0, .rw ty_int [] capK] K :=
        fun hk => hb (now := 0) (by omega) (Rd.own (L := []) rfl) (Rd.own (L := []) rfl) (Rd.own (L := []) rfl) hk
      simp only [not_true_eq_false, not_false_eq_true, decide_true, decide_false, Bool.not_true, Bool.not_false, false_implies, true_implies, and_true, true_and, Bool.false_eq_true, Bool.true_eq_false, implies_true, Bool.not_not, Classical.not_not, go_sem, Int.reduceToNat, List.take_nil, Nat.zero_mul, Nat.reduceEqDiff, Nat.reduceAdd, Nat.reduceLT, Nat.reduceLeDiff, Nat.reduceMul, ↓reduceIte, reduceCtorEq]
      refine ⟨fun g1 => ⟨by omega, fun g2 => best ?_, fun g2 => ?_⟩, fun g1 => best ?_⟩
      · simp only [go_sem, Int.reduceToNat, List.take_nil, Nat.zero_mul, Nat.reduceEqDiff, Nat.reduceAdd, Nat.reduceLT, Nat.reduceLeDiff, Nat.reduceMul, ↓reduceIte, reduceCtorEq]; exact kJ_intro () trivial (Wk.keep (by simp [look_cons]))
      · exact kJ_intro () trivial (Wk.keep (by simp [look_cons]))
      · simp only [go_sem, Int.reduceToNat, List.take_nil, Nat.zero_mul, Nat.reduceEqDiff, Nat.reduceAdd, Nat.reduceLT, Nat.reduceLeDiff, Nat.reduceMul, ↓reduceIte, reduceCtorEq]; exact kJ_intro () trivial (Wk.keep (by simp [look_cons]))
    · simp only [lenI, not_true_eq_false, not_false_eq_true, decide_true, decide_false, Bool.not_true, Bool.not_false, false_implies, true_implies, and_true, true_and, Bool.false_eq_true, Bool.true_eq_false, implies_true, Bool.not_not, Classical.not_not, go_sem, Int.reduceToNat, List.take_nil, Nat.zero_mul, Nat.reduceEqDiff, Nat.reduceAdd, Nat.reduceLT, Nat.reduceLeDiff, Nat.reduceMul, ↓reduceIte, reduceCtorEq]
      refine fun c3 hc3 => ⟨fun h => absurd h (by decide), fun _ => ⟨by omega, some (c3, 1), ⟨by simp only; omega, by simp only; omega⟩, ?_⟩⟩
      have e2 : encInt.row (List.replicate 1 (-1)) = [AV.i .i64 (-1)] := rfl
      simp only [e2]
      exact Wk.pickR [0, 1, 2, 3, 4, 6]
  · simp only at hk
    simp only [l0_spec_l17Run, runPN, not_true_eq_false, not_false_eq_true, decide_true, decide_false, Bool.not_true, Bool.not_false, false_implies, true_implies, and_true, true_and, Bool.false_eq_true, Bool.true_eq_false, implies_true, Bool.not_not, Classical.not_not, go_sem, Int.reduceToNat, List.take_nil, Nat.zero_mul, Nat.reduceEqDiff, Nat.reduceAdd, Nat.reduceLT, Nat.reduceLeDiff, Nat.reduceMul, ↓reduceIte, reduceCtorEq]
    refine ⟨fun hlt => ?_, fun hge => ?_⟩
    · refine seq_join (fun _ : Unit => ⟨[(0, .sl 0 0 0 c), (1, .i .i64 f), (2, .i .i64 n), (6, .p 1 0), (7, .p 2 0), (8, .sl 3 0 0 0), (9, .sl 4 0 0 capK), (11, .i .i64 k), (12, .i .i64 (-1))], [.ro [], .rw ty_impl_Schedule [.sn, .sn] 2, .rw ty_impl_Schedule [.sl 5 0 k c3, .sn] 2, .rw ty_int [] 0, .rw ty_int [] capK, .rw ty_int (encInt.row (List.replicate k (-1))) c3]⟩) (fun _ => True) ?_ fun _ _ => ?_
      · simp only [not_true_eq_false, not_false_eq_true, decide_true, decide_false, Bool.not_true, Bool.not_false, false_implies, true_implies, and_true, true_and, Bool.false_eq_true, Bool.true_eq_false, implies_true, Bool.not_not, Classical.not_not, go_sem, Int.reduceToNat, List.take_nil, Nat.zero_mul, Nat.reduceEqDiff, Nat.reduceAdd, Nat.reduceLT, Nat.reduceLeDiff, Nat.reduceMul, ↓reduceIte, reduceCtorEq]
        refine ⟨fun g1 => ⟨by omega, fun g2 => hb (by omega) (Rd.own (L := []) rfl) (Rd.own (L := []) rfl) (Rd.own (L := []) rfl) ?_, fun g2 => ?_⟩, fun g1 => hb (by omega) (Rd.own (L := []) rfl) (Rd.own (L := []) rfl) (Rd.own (L := []) rfl) ?_⟩
        · simp only [go_sem, Int.reduceToNat, List.take_nil, Nat.zero_mul, Nat.reduceEqDiff, Nat.reduceAdd, Nat.reduceLT, Nat.reduceLeDiff, Nat.reduceMul, ↓reduceIte, reduceCtorEq]; exact kJ_intro () trivial (Wk.keep (by simp [look_cons]))
        · exact kJ_intro () trivial (Wk.keep (by simp [look_cons]))
        · simp only [go_sem, Int.reduceToNat, List.take_nil, Nat.zero_mul, Nat.reduceEqDiff, Nat.reduceAdd, Nat.reduceLT, Nat.reduceLeDiff, Nat.reduceMul, ↓reduceIte, reduceCtorEq]; exact kJ_intro () trivial (Wk.keep (by simp [look_cons]))
      · simp only [lenI, not_true_eq_false, not_false_eq_true, decide_true, decide_false, Bool.not_true, Bool.not_false, false_implies, true_implies, and_true, true_and, Bool.false_eq_true, Bool.true_eq_false, implies_true, Bool.not_not, Classical.not_not, go_sem, Int.reduceToNat, List.take_nil, Nat.zero_mul, Nat.reduceEqDiff, Nat.reduceAdd, Nat.reduceLT, Nat.reduceLeDiff, Nat.reduceMul, ↓reduceIte, reduceCtorEq]
        refine ⟨by simp; omega, fun d3 hd3 => ⟨fun h => absurd h (by decide), fun _ => ⟨by omega, some (d3, k + 1), ⟨by simp only; omega, by simp only; omega⟩, ?_⟩⟩⟩
        have e2 : List.take k (encInt.row (List.replicate k (-1))) ++ [AV.i IntKind.i64 (-1)] = encInt.row (List.replicate (k + 1) (-1)) := by
          rw [List.take_of_length_le (by simp [lenI]), appI, ← List.replicate_succ']
        simp only [e2]
        exact Wk.pickR [0, 1, 2, 3, 4, 7]
    · have ek : k = 120 := by omega
      subst ek
      exact Fin.pickR [0, 5] (.agg [.sl 1 0 120 c3, .sn]) [.ro [], .rw ty_int (encInt.row (List.replicate 120 (-1))) c3] ⟨_, rfl, .inr ⟨trivial, c3, 0, .inr ⟨rfl, rfl, rfl⟩⟩⟩
theorem spec_l17Run_ {L : List Job} {f n : Int} (hfb : 0 ≤ f ∧ f ≤ 1000) (hnb : 0 ≤ n ∧ n ≤ 1000) (hl : L.length ≤ 1000) (hE : ∀ j ∈ L, 0 ≤ j.E ∧ j.E ≤ 1000) {v : AV} {σ : List AB} (a1 : Rd encJob σ v L) {K : AV → List AB → Prop}
    (hk : ∀ x τ, SchedQ σ.length True (pauseRun f n L) (pauseFin f n L) x τ → K x (σ ++ τ)) : CallWp Try.prog n_spec_l17Run [v, .i .i64 f, .i .i64 n] σ K := by
  refine call_news _ (rds1 a1.r) (fun c => [.sl 0 0 L.length (c 0), .i .i64 f, .i .i64 n]) (SchedQ 1 True (pauseRun f n L) (pauseFin f n L)) (fun c => ?_) (fun _ _ h => h.fr) (fun ν c h => ⟨h.1, .inl rfl, .inl rfl, trivial⟩) (fun _ => rfl) ?_
  · by_cases hne : 0 < L.length
    · exact spec_l17Run_cons L f n hfb hnb hl hne hE (c 0)
    · obtain rfl := List.eq_nil_of_length_eq_zero (show L.length = 0 by omega)
      obtain ⟨e1, e2⟩ := pause_none f n 120
      unfold pauseRun pauseFin
      rw [e1, e2]
      exact spec_l17Run_nil f n hfb hnb (c 0)
  · rintro x τ (⟨hno, _⟩ | ⟨_, c1, c2, ⟨h, rfl, rfl⟩ | ⟨h, rfl, rfl⟩⟩)
    · exact absurd trivial hno
    · exact hk _ _ (.inr ⟨trivial, c1, c2, .inl ⟨h, rfl, rfl⟩⟩)
    · exact hk _ _ (.inr ⟨trivial, c1, c2, .inr ⟨h, rfl, rfl⟩⟩)
end Go.Proofs.Ytdmoafmgeipenaa
