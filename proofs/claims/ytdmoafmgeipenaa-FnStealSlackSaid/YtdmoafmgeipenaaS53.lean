import Derived.Test.YtdmoafmgeipenaaS52
import Derived.Test.YtdmoafmgeipenaaS12
import Derived.Test.YtdmoafmgeipenaaS16
namespace Go.Proofs.Ytdmoafmgeipenaa
open Go.Abs Go.Ds
set_option linter.unusedSimpArgs false
set_option linter.unusedVariables false
set_option maxRecDepth 20000
set_option maxHeartbeats 4000000
theorem pauseFin0 (L : List Job) : pauseFin 0 0 L = edfFin L := by
  unfold pauseFin edfFin
  rw [simU_same (p := pausePick 0 0 L) (q := edfPick L) 120 fun t done _ => by unfold pausePick; rw [if_neg (by omega)]]
def stealS (S : List Task) (L : List Job) (q : Arr) (c c' : Nat) (i : Nat × Nat) : St :=
  ⟨[(1, .sl 1 0 L.length c'), (5, .p 2 0), (7, .sl 3 0 (stealUp L q.t q.e i.1).length i.2), (8, .i .i64 (q.t + i.1))], [.ro (encTask.row S), .ro (encJob.row L), .rw ty_impl_Arrival [.i .i64 q.t, .i .i64 q.e] 2, .rw ty_int (encInt.row (stealUp L q.t q.e i.1)) i.2]⟩
theorem spec_StealSlack0 (S : List Task) (L : List Job) (q : Arr) (hs : S.length ≤ 1048576) (hl : L.length ≤ 1048576) (c c' : Nat) : CallWp Try.prog n_spec_StealSlack [.sl 0 0 S.length c, .sl 1 0 L.length c', .agg [.i .i64 q.t, .i .i64 q.e]] [.ro (encTask.row S), .ro (encJob.row L)]
    (fun x σ' => ∃ cap, x = .sl 2 0 (stealV S L q).length cap ∧ σ' = [.ro (encTask.row S), .ro (encJob.row L)] ++ [.rw ty_int (encInt.row (stealV S L q)) cap]) := by
  refine call_spec_StealSlack (by simp) ?_
  simp only [c_spec_StealSlack, not_true_eq_false, not_false_eq_true, decide_true, decide_false, Bool.not_true, Bool.not_false, false_implies, true_implies, and_true, true_and, Bool.false_eq_true, Bool.true_eq_false, implies_true, Bool.not_not, Classical.not_not, go_sem, Int.reduceToNat, List.take_nil, Nat.zero_mul, Nat.reduceEqDiff, Nat.reduceAdd, Nat.reduceLT, Nat.reduceLeDiff, Nat.reduceMul, ↓reduceIte, reduceCtorEq]
  refine spec_JobsLegal_ (S := S) (L := L) (by omega) (by omega) (Rd.own rfl) (Rd.own rfl) ?_
  simp only [not_true_eq_false, not_false_eq_true, decide_true, decide_false, Bool.not_true, Bool.not_false, false_implies, true_implies, and_true, true_and, Bool.false_eq_true, Bool.true_eq_false, implies_true, Bool.not_not, Classical.not_not, go_sem, Int.reduceToNat, List.take_nil, Nat.zero_mul, Nat.reduceEqDiff, Nat.reduceAdd, Nat.reduceLT, Nat.reduceLeDiff, Nat.reduceMul, ↓reduceIte, reduceCtorEq]
  have hno : ¬ stealOk S L q → stealV S L q = [] := fun h => if_neg h
  refine ⟨fun h1 => spec_ArrivalsLegal_ (L := [q]) (by simp) (Rd.own' rfl rfl) ?_, fun h1 => ?_⟩
  · simp only [not_true_eq_false, not_false_eq_true, decide_true, decide_false, Bool.not_true, Bool.not_false, false_implies, true_implies, and_true, true_and, Bool.false_eq_true, Bool.true_eq_false, implies_true, Bool.not_not, Classical.not_not, go_sem, Int.reduceToNat, List.take_nil, Nat.zero_mul, Nat.reduceEqDiff, Nat.reduceAdd, Nat.reduceLT, Nat.reduceLeDiff, Nat.reduceMul, ↓reduceIte, reduceCtorEq]
    refine ⟨fun h2 => ?_, fun h2 => ?_⟩
    · have h60 := h1.2.1.1
      have hE := (slack_facts h1).2
      obtain ⟨hqt, hqe⟩ := arr_one.1 h2
      refine spec_l17Run_ (L := L) (f := 0) (n := 0) (by omega) (by omega) (by omega) hE (Rd.own rfl) ?_
      have hF : (pauseFin 0 0 L).length = L.length := (simU_lens 120).2.1
      rintro x τ (⟨hn, _⟩ | ⟨_, d1, d2, ⟨hne, rfl, rfl⟩ | ⟨hne, rfl, rfl⟩⟩)
      · exact absurd trivial hn
      all_goals
        simp only [not_true_eq_false, not_false_eq_true, decide_true, decide_false, Bool.not_true, Bool.not_false, false_implies, true_implies, and_true, true_and, Bool.false_eq_true, Bool.true_eq_false, implies_true, Bool.not_not, Classical.not_not, go_sem, Int.reduceToNat, List.take_nil, Nat.zero_mul, Nat.reduceEqDiff, Nat.reduceAdd, Nat.reduceLT, Nat.reduceLeDiff, Nat.reduceMul, ↓reduceIte, reduceCtorEq]
        refine spec_l3Missed_ (j := 1) (L := L) (fin := pauseFin 0 0 L) (by omega) hF rfl rfl (by first | exact .inl ⟨6, d2, rfl, rfl⟩ | exact .inr ⟨List.eq_nil_of_length_eq_zero (by rw [← hF, hne]; rfl), rfl⟩) fun cm _ => ?_
        rw [pauseFin0]
        simp only [not_true_eq_false, not_false_eq_true, decide_true, decide_false, Bool.not_true, Bool.not_false, false_implies, true_implies, and_true, true_and, Bool.false_eq_true, Bool.true_eq_false, implies_true, Bool.not_not, Classical.not_not, go_sem, Int.reduceToNat, List.take_nil, Nat.zero_mul, Nat.reduceEqDiff, Nat.reduceAdd, Nat.reduceLT, Nat.reduceLeDiff, Nat.reduceMul, ↓reduceIte, reduceCtorEq]
        refine ⟨fun h3 => ?_, fun h3 => ?_⟩
        · rw [hno fun h => by have := h.2.2; rw [this] at h3; exact absurd h3 (by decide)]
          exact Fin.pick [0, 1, 3] (.sl 2 0 0 0) _ ⟨0, rfl, rfl⟩
        · have e : missedL L (edfFin L) = [] := List.eq_nil_of_length_eq_zero (by omega)
          have hok : stealOk S L q := ⟨h1, h2, e⟩
          have hV : stealV S L q = stealL L q.t q.e := if_pos hok
          refine loop_intro (stealS S L q c c') (fun i => (i.1 : Int) ≤ 120 - q.t ∧ (stealUp L q.t q.e i.1).length ≤ i.2) (fun i => 120 - i.1) (0, 0) ⟨by simp only; omega, Nat.le_refl _⟩
            (by simp only [stealS, show q.t + ((0 : Nat) : Int) = q.t from by omega, show stealUp L q.t q.e 0 = [] from rfl, List.length_nil]; exact Wk.pick [0, 1, 2, 3]) ?_
          rintro ⟨k, cp⟩ ⟨hk, ho⟩
          simp only at hk ho
          have hlen := steal_len (L := L) (t := q.t) (e := q.e) (by omega) k
          have hw : win (encInt.row (stealUp L q.t q.e k)) 0 (stealUp L q.t q.e k).length = encInt.row (stealUp L q.t q.e k) := by
            simp only [win, List.drop_zero]
            exact List.take_of_length_le (by rw [lenI]; exact Nat.le_refl _)
          have er : List.take (stealUp L q.t q.e k).length (encInt.row (stealUp L q.t q.e k)) ++ [AV.i IntKind.i64 (q.t + k)] = encInt.row (stealUp L q.t q.e k ++ [q.t + k]) := by
            rw [List.take_of_length_le (by rw [lenI]; exact Nat.le_refl _), appI]
          simp only [l0_spec_StealSlack, stealS, hw, er, lenI, not_true_eq_false, not_false_eq_true, decide_true, decide_false, Bool.not_true, Bool.not_false, false_implies, true_implies, and_true, true_and, Bool.false_eq_true, Bool.true_eq_false, implies_true, Bool.not_not, Classical.not_not, go_sem, Int.reduceToNat, List.take_nil, Nat.zero_mul, Nat.reduceEqDiff, Nat.reduceAdd, Nat.reduceLT, Nat.reduceLeDiff, Nat.reduceMul, ↓reduceIte, reduceCtorEq]
          refine ⟨fun h4 => ⟨fun h5 => ⟨by omega, fun c3 _ => ⟨by omega, fun c4 hc4 => ?_⟩⟩, fun h5 => ?_⟩, fun h4 => ?_⟩
          · refine spec_l17Fits_ (L := L) (T := stealUp L q.t q.e k ++ [q.t + k]) (by omega) (by simp; omega) hE (Rd.own rfl) (Rd.own' rfl (by simp)) ?_
            simp only [not_true_eq_false, not_false_eq_true, decide_true, decide_false, Bool.not_true, Bool.not_false, false_implies, true_implies, and_true, true_and, Bool.false_eq_true, Bool.true_eq_false, implies_true, Bool.not_not, Classical.not_not, go_sem, Int.reduceToNat, List.take_nil, Nat.zero_mul, Nat.reduceEqDiff, Nat.reduceAdd, Nat.reduceLT, Nat.reduceLeDiff, Nat.reduceMul, ↓reduceIte, reduceCtorEq]
            refine ⟨fun h6 => ?_, fun h6 => ?_⟩
            · have e1 : stealUp L q.t q.e (k + 1) = stealUp L q.t q.e k ++ [q.t + k] := by simp only [stealUp]; rw [if_pos ⟨h5, h6⟩]
              refine ⟨by omega, (k + 1, c4), ⟨⟨by simp only; omega, by simp only [e1, List.length_append, List.length_cons, List.length_nil]; omega⟩, by simp only; omega⟩, ?_⟩
              simp only [e1, List.length_append, List.length_cons, List.length_nil, show q.t + ((k + 1 : Nat) : Int) = q.t + k + 1 from by omega]
              exact Wk.pick [0, 1, 2, 7]
            · have e1 : stealUp L q.t q.e (k + 1) = stealUp L q.t q.e k := by simp only [stealUp]; rw [if_neg fun g => h6 g.2]
              refine ⟨by omega, (k + 1, cp), ⟨⟨by simp only; omega, by simp only [e1]; exact ho⟩, by simp only; omega⟩, ?_⟩
              simp only [e1, show q.t + ((k + 1 : Nat) : Int) = q.t + k + 1 from by omega]
              exact Wk.pick [0, 1, 2, 3]
          · rw [hV, ← steal_all (k := k) (by omega) (.inl (by omega))]
            exact Fin.pick [0, 1, 3] (.sl 2 0 (stealUp L q.t q.e k).length cp) _ ⟨cp, rfl, rfl⟩
          · rw [hV, ← steal_all (k := k) (by omega) (.inr (by omega))]
            exact Fin.pick [0, 1, 3] (.sl 2 0 (stealUp L q.t q.e k).length cp) _ ⟨cp, rfl, rfl⟩
    · rw [hno fun h => h2 h.2.1]
      exact Fin.pick [0, 1, 3] (.sl 2 0 0 0) _ ⟨0, rfl, rfl⟩
  · rw [hno fun h => h1 h.1]
    exact Fin.pick [0, 1, 3] (.sl 2 0 0 0) _ ⟨0, rfl, rfl⟩
theorem spec_StealSlack_ {S : List Task} {L : List Job} {q : Arr} (hs : S.length ≤ 1048576) (hl : L.length ≤ 1048576) {v u : AV} {σ : List AB} (h : Rd encTask σ v S) (h' : Rd encJob σ u L) {K : AV → List AB → Prop}
    (hk : ∀ cap, K (.sl σ.length 0 (stealV S L q).length cap) (σ ++ [.rw ty_int (encInt.row (stealV S L q)) cap])) : CallWp Try.prog n_spec_StealSlack [v, u, .agg [.i .i64 q.t, .i .i64 q.e]] σ K := by
  refine call_new (k := 1) (len := (stealV S L q).length) (ty := ty_int) (row := encInt.row (stealV S L q)) _ (rds_cons h.r (rds1 h'.r)) (fun c => [.sl 0 0 S.length (c 0), .sl 1 0 L.length (c 1), .agg [.i .i64 q.t, .i .i64 q.e]]) (fun c => (spec_StealSlack0 S L q hs hl (c 0) (c 1)).mono (by rintro x σ' _ ⟨cap, rfl, rfl⟩; exact ⟨cap, rfl, by rw [Nat.mul_one]; rfl⟩)) (fun ν c h => ⟨h.1, h.2.1, .inl rfl, trivial⟩) (fun _ => rfl) (encInt.row_flat _) (fun cap => by rw [Nat.mul_one]; exact hk cap)
end Go.Proofs.Ytdmoafmgeipenaa
