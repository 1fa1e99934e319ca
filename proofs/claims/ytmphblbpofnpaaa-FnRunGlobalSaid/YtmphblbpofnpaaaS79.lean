import Derived.Test.YtmphblbpofnpaaaS7
import Derived.Test.YtmphblbpofnpaaaC4
import Derived.Test.YtmphblbpofnpaaaM47
namespace Go.Proofs.Ytmphblbpofnpaaa
open Go.Abs Go.Ds
set_option linter.unusedSimpArgs false
set_option linter.unusedVariables false
set_option maxRecDepth 20000
set_option maxHeartbeats 2000000
theorem gSel_stop {L : List Job} {now : Nat} {done : List Int} {k : Nat} (h : gNext L now done (gSel L now done k) < 0) : ∀ n, k ≤ n → gSel L now done n = gSel L now done k
  | 0, hk => by have : k = 0 := by omega
                subst this; rfl
  | n + 1, hk => by
    rcases Nat.lt_or_ge n k with g | g
    · have : k = n + 1 := by omega
      subst this; rfl
    · have ih := gSel_stop h n g
      simp only [gSel, ih, h, if_true]
theorem gSel_snoc {L : List Job} {now : Nat} {done : List Int} {k : Nat} (h : ¬ gNext L now done (gSel L now done k) < 0) : gSel L now done (k + 1) = gSel L now done k ++ [(gNext L now done (gSel L now done k)).toNat] := by
  simp only [gSel, h, if_false]
theorem spec_l14Pick0 (L : List Job) (done : List Int) (now n : Nat) (hn : now ≤ 1000) (hnn : n ≤ 1000) (hl : L.length ≤ 1000) (hd : done.length = L.length) (c c' : Nat) :
    CallWp Try.prog n_spec_l14Pick [.sl 0 0 L.length c, .sl 1 0 (leftOf L done).length c', .i .i64 now, .i .i64 n] [.ro (encJob.row L), .ro (encInt.row (leftOf L done))]
      (fun x σ => ∃ cap, x = .sl 2 0 (natsOf (gSel L now done n)).length cap ∧ σ = [.ro (encJob.row L), .ro (encInt.row (leftOf L done))] ++ [.rw ty_int (encInt.row (natsOf (gSel L now done n))) (cap * 1)]) := by
  refine call_spec_l14Pick (by simp) ?_
  simp only [c_spec_l14Pick, not_true_eq_false, not_false_eq_true, decide_true, decide_false, Bool.not_true, Bool.not_false, false_implies, true_implies, and_true, true_and, Bool.false_eq_true, Bool.true_eq_false, implies_true, Bool.not_not, Classical.not_not, go_sem, Int.reduceToNat, List.take_nil, Nat.zero_mul, Nat.reduceEqDiff, Nat.reduceAdd, Nat.reduceLT, Nat.reduceLeDiff, Nat.reduceMul, ↓reduceIte, reduceCtorEq]
  have hlf := leftOf_length L done
  refine loop_intro (fun i : Nat × Nat => ⟨[(0, .sl 0 0 L.length c), (1, .sl 1 0 (leftOf L done).length c'), (2, .i .i64 now), (3, .i .i64 n), (9, .sl 2 0 i.1 i.2)], [.ro (encJob.row L), .ro (encInt.row (leftOf L done)), .rw ty_int (encInt.row (natsOf (gSel L now done i.1))) i.2]⟩)
    (fun i => i.1 ≤ n ∧ (gSel L now done i.1).length = i.1) (fun i => n - i.1) (0, 0) ⟨Nat.zero_le _, rfl⟩ (Wk.pick [0, 1, 2]) ?_
  rintro ⟨k, cap⟩ ⟨hk1, hk2⟩
  simp only at hk1 hk2
  simp only [l1_spec_l14Pick, not_true_eq_false, not_false_eq_true, decide_true, decide_false, Bool.not_true, Bool.not_false, false_implies, true_implies, and_true, true_and, Bool.false_eq_true, Bool.true_eq_false, implies_true, Bool.not_not, Classical.not_not, go_sem, Int.reduceToNat, List.take_nil, Nat.zero_mul, Nat.reduceEqDiff, Nat.reduceAdd, Nat.reduceLT, Nat.reduceLeDiff, Nat.reduceMul, ↓reduceIte, reduceCtorEq]
  have ho := hk2
  have hnl := natsOf_len (gSel L now done k)
  refine ⟨fun hkn => ?_, fun hkn => ?_⟩
  · generalize hoo : gSel L now done k = o at ho hnl
    generalize hok : (fun i : Nat => readyJ L done now i && !(o.contains i)) = ok
    refine loop_count L.length (fun i => ⟨[(0, .sl 0 0 L.length c), (1, .sl 1 0 (leftOf L done).length c'), (2, .i .i64 now), (3, .i .i64 n), (9, .sl 2 0 k cap), (10, .i .i64 (bestF i ok fun i => (L.getD i default).D)), (11, .i .i64 i)], [.ro (encJob.row L), .ro (encInt.row (leftOf L done)), .rw ty_int (encInt.row (natsOf o)) cap]⟩) (fun _ => True) trivial (Wk.keep (by simp [look_cons, bestF])) fun i hil _ => ?_
    simp only [l0_spec_l14Pick, not_true_eq_false, not_false_eq_true, decide_true, decide_false, Bool.not_true, Bool.not_false, false_implies, true_implies, and_true, true_and, Bool.false_eq_true, Bool.true_eq_false, implies_true, Bool.not_not, Classical.not_not, go_sem, Int.reduceToNat, List.take_nil, Nat.zero_mul, Nat.reduceEqDiff, Nat.reduceAdd, Nat.reduceLT, Nat.reduceLeDiff, Nat.reduceMul, ↓reduceIte, reduceCtorEq]
    refine ⟨fun hl1 => ?_, fun hl1 => ?_⟩
    · have hi1 : i < (leftOf L done).length := by omega
      have hb := bestF_range ok (fun i => (L.getD i default).D) i
      have hsucc := bestF_succ i ok (fun i => (L.getD i default).D)
      have gLi : L.getD i default = L[i] := by simp [List.getD_eq_getElem?_getD, hl1]
      have elf : (leftOf L done)[i] = L[i].E - gI done i := by rw [leftOf_get, gLi]
      have eok : ok i = (decide (L[i].R ≤ (now : Int) ∧ 0 < (leftOf L done)[i]) && decide (i ∉ o)) := by
        rw [← hok]
        simp only [readyJ, gLi, elf, List.contains_eq_mem]
        congr 1
        · rw [decide_eq_decide]; omega
        · simp
      rw [gLi] at hsucc
      generalize bestF i ok (fun i => (L.getD i default).D) = b at hb hsucc ⊢
      rw [hsucc, eok]
      simp only [rdJ1 hl1, rdJ2 hl1, rdI hi1, lenJ, lenI, hlf, not_true_eq_false, not_false_eq_true, decide_true, decide_false, Bool.not_true, Bool.not_false, false_implies, true_implies, and_true, true_and, Bool.false_eq_true, Bool.true_eq_false, implies_true, Bool.not_not, Classical.not_not, go_sem, Int.reduceToNat, List.take_nil, Nat.zero_mul, Nat.reduceEqDiff, Nat.reduceAdd, Nat.reduceLT, Nat.reduceLeDiff, Nat.reduceMul, ↓reduceIte, reduceCtorEq]
      simp only [Bool.and_eq_true, decide_eq_true_eq]
      have hro : Rd encInt [.ro (encJob.row L), .ro (encInt.row (leftOf L done)), .rw ty_int (encInt.row (natsOf o)) cap] (.sl 2 0 k cap) (natsOf o) := by
        have e : k = (natsOf o).length := by omega
        rw [e]; exact Rd.own rfl
      have hmem := (idxF_mem (O := natsOf o) (x := (i : Int))).trans natsOf_mem
      have call : ∀ {K : AV → Prop}, K (.i .i64 (idxF (fun y => decide (y = (i : Int))) (natsOf o))) → onCall Try.prog n_spec_l4Index [.sl 2 0 k cap, .i .i64 (i : Int)] [.ro (encJob.row L), .ro (encInt.row (leftOf L done)), .rw ty_int (encInt.row (natsOf o)) cap] K := fun hK => onCall.by (spec_l4Index_ (L := natsOf o) (i : Int) (by omega) hro ⟨rfl, rfl⟩) hK
      generalize idxF (fun y => decide (y = (i : Int))) (natsOf o) = x at hmem call
      have hcap := hlf
      refine ⟨hl1, by omega, fun g1 => ⟨hl1, hl1, fun g2 => call ?_, fun g2 => ?_⟩, fun g1 => ?_⟩
      · simp only [not_true_eq_false, not_false_eq_true, decide_true, decide_false, Bool.not_true, Bool.not_false, false_implies, true_implies, and_true, true_and, Bool.false_eq_true, Bool.true_eq_false, implies_true, Bool.not_not, Classical.not_not, go_sem, Int.reduceToNat, List.take_nil, Nat.zero_mul, Nat.reduceEqDiff, Nat.reduceAdd, Nat.reduceLT, Nat.reduceLeDiff, Nat.reduceMul, ↓reduceIte, reduceCtorEq]
        refine ⟨fun g3 => ?_, fun g3 => ?_⟩
        · have hin : i ∉ o := fun h => by have := hmem.2 h; omega
          simp only [rdJ2 hl1, lenJ, not_true_eq_false, not_false_eq_true, decide_true, decide_false, Bool.not_true, Bool.not_false, false_implies, true_implies, and_true, true_and, Bool.false_eq_true, Bool.true_eq_false, implies_true, Bool.not_not, Classical.not_not, go_sem, Int.reduceToNat, List.take_nil, Nat.zero_mul, Nat.reduceEqDiff, Nat.reduceAdd, Nat.reduceLT, Nat.reduceLeDiff, Nat.reduceMul, ↓reduceIte, reduceCtorEq]
          refine ⟨fun g4 => ?_, fun g4 => ?_⟩
          · obtain ⟨nb, rfl⟩ := Int.eq_ofNat_of_zero_le (show 0 ≤ b by omega)
            have hnb : nb < L.length := by omega
            have eb : L.getD nb default = L[nb] := by simp [List.getD_eq_getElem?_getD, hnb]
            simp only [Int.toNat_natCast, rdJ2 hnb, eb, lenJ, not_true_eq_false, not_false_eq_true, decide_true, decide_false, Bool.not_true, Bool.not_false, false_implies, true_implies, and_true, true_and, Bool.false_eq_true, Bool.true_eq_false, implies_true, Bool.not_not, Classical.not_not, go_sem, Int.reduceToNat, List.take_nil, Nat.zero_mul, Nat.reduceEqDiff, Nat.reduceAdd, Nat.reduceLT, Nat.reduceLeDiff, Nat.reduceMul, ↓reduceIte, reduceCtorEq]
            refine ⟨by omega, by omega, by omega, by omega, fun g5 => ⟨by omega, hl1, ?_⟩, fun g5 => ⟨by omega, hl1, ?_⟩⟩
            · rw [if_pos ⟨⟨⟨g1, g2⟩, hin⟩, .inr g5⟩]; exact Wk.keep (by simp [look_cons, hlf])
            · rw [if_neg fun hh => hh.2.elim g4 g5]; exact Wk.keep (by simp [look_cons, hlf])
          · refine ⟨by omega, hl1, ?_⟩
            rw [if_pos ⟨⟨⟨g1, g2⟩, hin⟩, .inl g4⟩]; exact Wk.keep (by simp [look_cons, hlf])
        · have hin : i ∈ o := hmem.1 (by omega)
          refine ⟨by omega, hl1, ?_⟩
          rw [if_neg fun hh => hh.1.2 hin]; exact Wk.keep (by simp [look_cons, hlf])
      · refine ⟨by omega, hl1, ?_⟩
        rw [if_neg fun hh => g2 hh.1.1.2]; exact Wk.keep (by simp [look_cons, hlf])
      · refine ⟨by omega, hl1, ?_⟩
        rw [if_neg fun hh => g1 hh.1.1.1]; exact Wk.keep (by simp [look_cons, hlf])
    · have e : i = L.length := by omega
      subst e
      have hnx : bestF L.length ok (fun i => (L.getD i default).D) = gNext L now done o := by rw [← hok]; rfl
      rw [hnx]
      refine ⟨fun hneg => ?_, fun hpos => ?_⟩
      · have e : gSel L now done n = o := by rw [gSel_stop (by rw [hoo]; exact hneg) n (by omega), hoo]
        rw [e, hnl, ho]
        exact Fin.plain ⟨cap, rfl, rfl⟩
      · obtain ⟨nb, hnb⟩ := Int.eq_ofNat_of_zero_le (show 0 ≤ gNext L now done o by omega)
        have e : gSel L now done (k + 1) = o ++ [nb] := by
          rw [gSel_snoc (by rw [hoo]; exact hpos), hoo, hnb]; rfl
        have e2 : natsOf (gSel L now done (k + 1)) = natsOf o ++ [(nb : Int)] := by rw [e, natsOf_snoc]
        rw [hnb]
        have tk : List.take k (encInt.row (natsOf o)) = encInt.row (natsOf o) := List.take_of_length_le (by rw [lenI]; omega)
        refine ⟨⟨by rw [lenI]; omega, by omega, by omega⟩, fun cap' hc => ⟨(k + 1, cap'), ⟨⟨by simp only; omega, by simp only; rw [e, List.length_append, ho]; rfl⟩, by simp only; omega⟩, ?_⟩⟩
        simp only [e2]
        rw [tk, appI]
        exact Wk.pick [0, 1, 4]
  · have e : k = n := by omega
    subst e
    rw [hnl, ho]
    exact Fin.plain ⟨cap, rfl, rfl⟩
theorem spec_l14Pick_ {L : List Job} {done : List Int} {now n : Nat} (hn : now ≤ 1000) (hnn : n ≤ 1000) (hl : L.length ≤ 1000) (hd : done.length = L.length) {v u : AV} {σ : List AB} (h : Rd encJob σ v L) (h' : Rd encInt σ u (leftOf L done)) {K : AV → List AB → Prop}
    (hk : ∀ cap, K (.sl σ.length 0 (natsOf (gSel L now done n)).length cap) (σ ++ [.rw ty_int (encInt.row (natsOf (gSel L now done n))) (cap * 1)])) : CallWp Try.prog n_spec_l14Pick [v, u, .i .i64 now, .i .i64 n] σ K :=
  call_new _ (rds_cons h.r (rds1 h'.r)) (fun c => [.sl 0 0 L.length (c 0), .sl 1 0 (leftOf L done).length (c 1), .i .i64 now, .i .i64 n]) (fun c => spec_l14Pick0 L done now n hn hnn hl hd (c 0) (c 1)) (fun ν c h => ⟨h.1, h.2.1, .inl rfl, .inl rfl, trivial⟩) (fun _ => rfl) (encInt.row_flat _) hk
end Go.Proofs.Ytmphblbpofnpaaa
