import Derived.Test.YtmphblbpofnpaaaS5
import Derived.Test.YtmphblbpofnpaaaS6
namespace Go.Proofs.Ytmphblbpofnpaaa
open Go.Abs Go.Ds
set_option linter.unusedSimpArgs false
set_option linter.unusedVariables false
set_option maxRecDepth 20000
def keyPick (L : List Job) (ks : List Int) (now : Nat) (done : List Int) : Int := bestF L.length (readyJ L done now) fun i => gI ks i
theorem keyPick_range (L : List Job) (ks : List Int) (now : Nat) (done : List Int) : -1 ≤ keyPick L ks now done ∧ keyPick L ks now done < L.length := bestF_range _ _ _
theorem bestF_congr {ok ok' : Nat → Bool} {key key' : Nat → Int} : ∀ {n : Nat}, (∀ i, i < n → ok i = ok' i) → (∀ i, i < n → key i = key' i) → bestF n ok key = bestF n ok' key'
  | 0, _, _ => rfl
  | n + 1, h1, h2 => by
    have ih := bestF_congr (n := n) (fun i hi => h1 i (by omega)) (fun i hi => h2 i (by omega))
    have hb := bestF_range ok' key' n
    rw [bestF_succ, bestF_succ, ih, h1 n (by omega), h2 n (by omega)]
    by_cases h0 : bestF n ok' key' < 0
    · simp [h0]
    · rw [h2 _ (show (bestF n ok' key').toNat < n + 1 by omega)]
theorem Rd.len' {α : Type} {E : Enc α} {σ : List AB} {n len cap : Nat} {L : List α} (h : cellsOf σ n = some (E.row L)) (hl : L.length = len) : Rd E σ (.sl n 0 len cap) L := by subst hl; exact Rd.own h
def leftOf (L : List Job) (done : List Int) : List Int := (List.range L.length).map fun i => (L.getD i default).E - gI done i
theorem leftOf_length (L : List Job) (done : List Int) : (leftOf L done).length = L.length := by simp [leftOf]
theorem leftOf_get (L : List Job) (done : List Int) (i : Nat) (h : i < (leftOf L done).length) : (leftOf L done)[i] = (L.getD i default).E - gI done i := by simp [leftOf]
theorem leftOf_gI (L : List Job) (done : List Int) (i : Nat) (h : i < L.length) : gI (leftOf L done) i = (L.getD i default).E - gI done i := by
  rw [gI_eq (by rw [leftOf_length]; simpa using h)]; simp [leftOf]
theorem leftOf_zero (L : List Job) : leftOf L (List.replicate L.length 0) = L.map Job.E := by
  apply List.ext_getElem
  · simp [leftOf]
  · intro i h1 h2
    rw [leftOf_length] at h1
    rw [leftOf_get, gI_rep _ _ _ h1]; simp [List.getD_eq_getElem?_getD, h1]
theorem leftOf_set (L : List Job) (done : List Int) (k : Nat) (h : k < L.length) (hd : done.length = L.length) : leftOf L (done.set k (gI done k + 1)) = (leftOf L done).set k (gI (leftOf L done) k - 1) := by
  apply List.ext_getElem
  · simp [leftOf]
  · intro i h1 h2
    rw [leftOf_length] at h1
    rw [leftOf_get, List.getElem_set, gI_set (by omega)]
    split
    · rename_i e; subst e; rw [leftOf_gI _ _ _ h]; omega
    · rw [leftOf_get]
theorem keyPick_left {L : List Job} {ks done : List Int} {now : Nat} : bestF L.length (fun i => decide ((L.getD i default).R ≤ (now : Int) ∧ 0 < gI (leftOf L done) i)) (fun i => gI ks i) = keyPick L ks now done := by
  refine bestF_congr (fun i hi => ?_) (fun _ _ => rfl)
  rw [leftOf_gI _ _ _ hi]
  unfold readyJ
  apply decide_eq_decide.2
  constructor <;> rintro ⟨h1, h2⟩ <;> exact ⟨h1, by omega⟩
def SchedQ (N : Nat) (ok : Prop) (run fin : List Int) (x : AV) (τ : List AB) : Prop :=
  (¬ ok ∧ x = .agg [.sn, .sn] ∧ τ = []) ∨ (ok ∧ ∃ c1 c2, (fin ≠ [] ∧ x = .agg [.sl N 0 120 c1, .sl (N + 1) 0 fin.length c2] ∧ τ = [.rw ty_int (encInt.row run) c1, .rw ty_int (encInt.row fin) c2]) ∨ (fin = [] ∧ x = .agg [.sl N 0 120 c1, .sn] ∧ τ = [.rw ty_int (encInt.row run) c1]))
theorem SchedQ.fr {N : Nat} {ok : Prop} {run fin : List Int} {x : AV} {τ : List AB} (h : SchedQ N ok run fin x τ) : τ.all plainRw = true ∧ freshA N x = true := by
  rcases h with ⟨_, rfl, rfl⟩ | ⟨_, c1, c2, ⟨_, rfl, rfl⟩ | ⟨_, rfl, rfl⟩⟩
  · exact ⟨rfl, rfl⟩
  · simp [plainRw, encInt.row_flat, freshA, fresh1A, freshC]
  · simp [plainRw, encInt.row_flat, freshA, fresh1A, freshC, flat]
theorem simU_neg {L : List Job} {pick : Nat → List Int → Int} {k : Nat} (h : pick k (simU L pick k).done < 0) : (simU L pick (k + 1)).done = (simU L pick k).done ∧ (simU L pick (k + 1)).fin = (simU L pick k).fin ∧ (simU L pick (k + 1)).run = (simU L pick k).run ++ [pick k (simU L pick k).done] := by
  have : simU L pick (k + 1) = tick L (fun _ now done => (pick now done, ())) k (simU L pick k) := rfl
  rw [this]
  simp [tick, h]
theorem simU_pos {L : List Job} {pick : Nat → List Int → Int} {k n : Nat} (h : pick k (simU L pick k).done = n) (hn : n < L.length) : leftOf L (simU L pick (k + 1)).done = (leftOf L (simU L pick k).done).set n (gI (leftOf L (simU L pick k).done) n - 1) ∧
    (simU L pick (k + 1)).fin = (if gI (leftOf L (simU L pick k).done) n - 1 = 0 then (simU L pick k).fin.set n (k + 1) else (simU L pick k).fin) ∧ (simU L pick (k + 1)).run = (simU L pick k).run ++ [(n : Int)] := by
  have : simU L pick (k + 1) = tick L (fun _ now done => (pick now done, ())) k (simU L pick k) := rfl
  have hl := (sim_lens (L := L) (pick := fun _ now done => (pick now done, ())) (s0 := ()) k).1
  change (simU L pick k).done.length = L.length at hl
  rw [this]
  generalize simU L pick k = s at *
  have hneg : ¬ (n : Int) < 0 := by omega
  simp only [tick, h, hneg, if_false, Int.toNat_natCast]
  refine ⟨leftOf_set _ _ _ hn hl, ?_, trivial⟩
  rw [leftOf_gI _ _ _ hn]
  by_cases e : gI s.done n + 1 = (L.getD n default).E
  · rw [if_pos e, if_pos (by omega)]
  · rw [if_neg e, if_neg (by omega)]
def runA (L : List Job) (ks : List Int) (c c' : Nat) : Option (Nat × Nat × Nat) → St
  | none => ⟨[(0, .sl 0 0 L.length c), (1, .sl 1 0 ks.length c'), (4, .p 2 0), (5, .p 3 0), (6, .sl 4 0 0 0), (7, .i .i64 0)], [.ro (encJob.row L), .ro (encInt.row ks), .rw ty_impl_Schedule [.sn, .sn] 2, .rw ty_impl_Schedule [.sn, .sn] 2, .rw ty_int [] 0]⟩
  | some (c1, c2, k) => ⟨[(0, .sl 0 0 L.length c), (1, .sl 1 0 ks.length c'), (4, .p 2 0), (5, .p 3 0), (6, .sl 4 0 k c1), (7, .i .i64 k)], [.ro (encJob.row L), .ro (encInt.row ks), .rw ty_impl_Schedule [.sn, .sn] 2, .rw ty_impl_Schedule [.sn, .sl 5 0 k c2] 2, .rw ty_int (encInt.row ((L.take k).map Job.E)) c1, .rw ty_int (encInt.row (List.replicate k (-1))) c2]⟩
def runB (L : List Job) (ks : List Int) (c c' c1 c2 : Nat) : Option (Nat × Nat) → St
  | none => ⟨[(0, .sl 0 0 L.length c), (1, .sl 1 0 ks.length c'), (4, .p 2 0), (5, .p 3 0), (6, .sl 4 0 L.length c1), (8, .i .i64 0)], [.ro (encJob.row L), .ro (encInt.row ks), .rw ty_impl_Schedule [.sn, .sn] 2, .rw ty_impl_Schedule [.sn, .sl 5 0 L.length c2] 2, .rw ty_int (encInt.row (leftOf L (simU L (keyPick L ks) 0).done)) c1, .rw ty_int (encInt.row (simU L (keyPick L ks) 0).fin) c2]⟩
  | some (c3, k) => ⟨[(0, .sl 0 0 L.length c), (1, .sl 1 0 ks.length c'), (4, .p 2 0), (5, .p 3 0), (6, .sl 4 0 L.length c1), (8, .i .i64 k)], [.ro (encJob.row L), .ro (encInt.row ks), .rw ty_impl_Schedule [.sn, .sn] 2, .rw ty_impl_Schedule [.sl 6 0 k c3, .sl 5 0 L.length c2] 2, .rw ty_int (encInt.row (leftOf L (simU L (keyPick L ks) k).done)) c1, .rw ty_int (encInt.row (simU L (keyPick L ks) k).fin) c2, .rw ty_int (encInt.row (simU L (keyPick L ks) k).run) c3]⟩
theorem spec_l3Run_cons (L : List Job) (ks : List Int) (hl : L.length ≤ 1000) (hne : 0 < L.length) (h2 : ks.length = L.length) (hE : ∀ j ∈ L, 0 ≤ j.E ∧ j.E ≤ 1000) (c c' : Nat) :
    CallWp Try.prog n_spec_l3Run [.sl 0 0 L.length c, .sl 1 0 ks.length c'] [.ro (encJob.row L), .ro (encInt.row ks)]
      (fun x σ' => ∃ τ, σ' = [.ro (encJob.row L), .ro (encInt.row ks)] ++ τ ∧ SchedQ 2 True (simU L (keyPick L ks) 120).run (simU L (keyPick L ks) 120).fin x τ) := by
  refine call_spec_l3Run (by simp) ?_
  simp only [c_spec_l3Run, not_true_eq_false, not_false_eq_true, decide_true, decide_false, Bool.not_true, Bool.not_false, false_implies, true_implies, and_true, true_and, Bool.false_eq_true, Bool.true_eq_false, implies_true, Bool.not_not, Classical.not_not, go_sem, Int.reduceToNat, List.take_nil, Nat.zero_mul, Nat.reduceEqDiff, Nat.reduceAdd, Nat.reduceLT, Nat.reduceLeDiff, Nat.reduceMul, ↓reduceIte, reduceCtorEq]
  refine loop_intro (runA L ks c c') (fun i => match i with | none => True | some (_, _, k) => 1 ≤ k ∧ k ≤ L.length) (fun i => match i with | none => L.length | some (_, _, k) => L.length - k) none trivial (Wk.pick [0, 1, 2, 3, 4]) ?_
  rintro (_ | ⟨c1, c2, k⟩) hk
  · simp only [l1_spec_l3Run, runA, lenJ, rdJ3 hne, not_true_eq_false, not_false_eq_true, decide_true, decide_false, Bool.not_true, Bool.not_false, false_implies, true_implies, and_true, true_and, Bool.false_eq_true, Bool.true_eq_false, implies_true, Bool.not_not, Classical.not_not, go_sem, Int.reduceToNat, List.take_nil, Nat.zero_mul, Nat.reduceEqDiff, Nat.reduceAdd, Nat.reduceLT, Nat.reduceLeDiff, Nat.reduceMul, ↓reduceIte, reduceCtorEq]
    refine ⟨fun h => ⟨by omega, by omega, fun c1 h1 c2 h2 => ⟨by omega, some (c1, c2, 1), ⟨by simp only; omega, by simp only; omega⟩, ?_⟩⟩, fun h => absurd (show (0 : Int) < L.length by omega) h⟩
    have e : encInt.row ((L.take 1).map Job.E) = [AV.i .i64 L[0].E] := by
      rw [List.take_succ_eq_append_getElem hne]; rfl
    have e2 : encInt.row (List.replicate 1 (-1)) = [AV.i .i64 (-1)] := rfl
    simp only [e, e2]
    exact Wk.pickR [0, 1, 2, 3, 6, 8]
  · simp only at hk
    simp only [l1_spec_l3Run, runA, lenJ, not_true_eq_false, not_false_eq_true, decide_true, decide_false, Bool.not_true, Bool.not_false, false_implies, true_implies, and_true, true_and, Bool.false_eq_true, Bool.true_eq_false, implies_true, Bool.not_not, Classical.not_not, go_sem, Int.reduceToNat, List.take_nil, Nat.zero_mul, Nat.reduceEqDiff, Nat.reduceAdd, Nat.reduceLT, Nat.reduceLeDiff, Nat.reduceMul, ↓reduceIte, reduceCtorEq]
    refine ⟨fun hlt => ?_, fun hlt => ?_⟩
    · simp only [lenJ, rdJ3 hlt, lenI, List.length_map, List.length_take, List.length_replicate, Nat.min_eq_left hk.2, not_true_eq_false, not_false_eq_true, decide_true, decide_false, Bool.not_true, Bool.not_false, false_implies, true_implies, and_true, true_and, Bool.false_eq_true, Bool.true_eq_false, implies_true, Bool.not_not, Classical.not_not, go_sem, Int.reduceToNat, List.take_nil, Nat.zero_mul, Nat.reduceEqDiff, Nat.reduceAdd, Nat.reduceLT, Nat.reduceLeDiff, Nat.reduceMul, ↓reduceIte, reduceCtorEq]
      refine ⟨hlt, by omega, by omega, fun d1 h1 => ⟨by omega, fun d2 h2 => ⟨by omega, some (d1, d2, k + 1), ⟨by simp only; omega, by simp only; omega⟩, ?_⟩⟩⟩
      have e1 : List.take k (encInt.row (List.map Job.E (List.take k L))) ++ [AV.i IntKind.i64 L[k].E] = encInt.row (List.map Job.E (List.take (k + 1) L)) := by
        rw [List.take_of_length_le (by simp [lenI]; omega), List.take_succ_eq_append_getElem hlt, List.map_append, appI]; rfl
      have e2 : List.take k (encInt.row (List.replicate k (-1))) ++ [AV.i IntKind.i64 (-1)] = encInt.row (List.replicate (k + 1) (-1)) := by
        rw [List.take_of_length_le (by simp [lenI]), appI, ← List.replicate_succ']
      rw [e1, e2]
      exact Wk.pickR [0, 1, 2, 3, 7, 9]
    · have ek : k = L.length := by omega
      subst ek
      rw [List.take_length, ← leftOf_zero]
      have hlens := fun n => sim_lens (L := L) (pick := fun _ now done => (keyPick L ks now done, ())) (s0 := ()) n
      have hdone := sim_done (L := L) (pick := fun _ now done => (keyPick L ks now done, ())) (s0 := ()) (fun _ now done => (keyPick_range L ks now done).2)
      refine loop_intro (runB L ks c c' c1 c2) (fun i => match i with | none => True | some (_, k) => 1 ≤ k ∧ k ≤ 120) (fun i => match i with | none => 120 | some (_, k) => 120 - k) none trivial (Wk.pick [0, 1, 2, 3, 4, 5]) ?_
      rintro (_ | ⟨c3, k⟩) hk
      · simp only [l0_spec_l3Run, runB, not_true_eq_false, not_false_eq_true, decide_true, decide_false, Bool.not_true, Bool.not_false, false_implies, true_implies, and_true, true_and, Bool.false_eq_true, Bool.true_eq_false, implies_true, Bool.not_not, Classical.not_not, go_sem, Int.reduceToNat, List.take_nil, Nat.zero_mul, Nat.reduceEqDiff, Nat.reduceAdd, Nat.reduceLT, Nat.reduceLeDiff, Nat.reduceMul, ↓reduceIte, reduceCtorEq]
        refine ⟨fun _ => ?_, fun h => absurd (by decide) h⟩
        refine spec_l3Best_ (L := L) (ks := ks) (now := 0) (by omega) (by omega) (leftOf_length _ _) h2 (Rd.own rfl) (Rd.len' rfl (leftOf_length _ _)) (Rd.own rfl) ?_
        rw [keyPick_left]
        have hlk := hlens 0
        have hdk := hdone 0
        have hpk := keyPick_range L ks 0 (simU L (keyPick L ks) 0).done
        have hneg := @simU_neg L (keyPick L ks) 0
        have hpos := @simU_pos L (keyPick L ks) 0
        have hlo := leftOf_length L (simU L (keyPick L ks) 0).done
        change (simU L (keyPick L ks) 0).done.length = L.length ∧ (simU L (keyPick L ks) 0).fin.length = L.length ∧ (simU L (keyPick L ks) 0).run.length = 0 at hlk
        change ∀ (i : Nat), i < L.length → 0 ≤ gI (simU L (keyPick L ks) 0).done i ∧ gI (simU L (keyPick L ks) 0).done i ≤ 0 at hdk
        generalize simU L (keyPick L ks) 0 = s at *
        have hsk : True := trivial
        obtain ⟨l1, l2, l3⟩ := hlk
        generalize hi : keyPick L ks 0 s.done = i at *
        simp only [lenI, not_true_eq_false, not_false_eq_true, decide_true, decide_false, Bool.not_true, Bool.not_false, false_implies, true_implies, and_true, true_and, Bool.false_eq_true, Bool.true_eq_false, implies_true, Bool.not_not, Classical.not_not, go_sem, Int.reduceToNat, List.take_nil, Nat.zero_mul, Nat.reduceEqDiff, Nat.reduceAdd, Nat.reduceLT, Nat.reduceLeDiff, Nat.reduceMul, ↓reduceIte, reduceCtorEq]
        refine fun d3 hd3 => ⟨fun hge => ?_, fun hneg0 => ?_⟩
        · obtain ⟨n, rfl⟩ := Int.eq_ofNat_of_zero_le (show 0 ≤ i by omega)
          have hnL : n < L.length := by omega
          have hnl : n < (leftOf L s.done).length := by omega
          have hnf : n < s.fin.length := by omega
          obtain ⟨e1, e2, e3⟩ := hpos rfl hnL
          have gl : gI (leftOf L s.done) n = (leftOf L s.done)[n] := by simp [gI, List.getD_eq_getElem?_getD, hnl]
          rw [gl] at e1 e2
          have hv : (leftOf L s.done)[n] = (L.getD n default).E - gI s.done n := leftOf_get _ _ _ _
          have hEn := hE _ (List.getElem_mem hnL)
          have hLn : L.getD n default = L[n] := by simp [List.getD_eq_getElem?_getD, hnL]
          rw [hLn] at hv
          have hdn := hdk n hnL
          have hns : n < ((leftOf L s.done).set n ((leftOf L s.done)[n] - 1)).length := by rw [List.length_set]; exact hnl
          have gs : ((leftOf L s.done).set n ((leftOf L s.done)[n] - 1))[n] = (leftOf L s.done)[n] - 1 := List.getElem_set_self ..
          simp only [Int.toNat_natCast, rdI hnl, splI hnl, rdI hns, gs, splI hnf, List.length_set, lenI, hlo, l2, not_true_eq_false, not_false_eq_true, decide_true, decide_false, Bool.not_true, Bool.not_false, false_implies, true_implies, and_true, true_and, Bool.false_eq_true, Bool.true_eq_false, implies_true, Bool.not_not, Classical.not_not, go_sem, Int.reduceToNat, List.take_nil, Nat.zero_mul, Nat.reduceEqDiff, Nat.reduceAdd, Nat.reduceLT, Nat.reduceLeDiff, Nat.reduceMul, ↓reduceIte, reduceCtorEq]
          repeat refine ⟨by omega, ?_⟩
          refine ⟨fun he => ?_, fun he => ?_⟩
          · repeat refine ⟨by omega, ?_⟩
            refine ⟨some (d3, 0 + 1), ⟨by simp only; omega, by simp only; omega⟩, ?_⟩
            rw [if_pos he] at e2
            simp only [e1, e2, e3]
            have er : [AV.i IntKind.i64 n] = encInt.row (s.run ++ [(n : Int)]) := by rw [List.eq_nil_of_length_eq_zero l3]; rfl
            try rw [er]
            exact Wk.pickR [0, 1, 2, 3, 4, 5, 7]
          · repeat refine ⟨by omega, ?_⟩
            refine ⟨some (d3, 0 + 1), ⟨by simp only; omega, by simp only; omega⟩, ?_⟩
            rw [if_neg he] at e2
            simp only [e1, e2, e3]
            have er : [AV.i IntKind.i64 n] = encInt.row (s.run ++ [(n : Int)]) := by rw [List.eq_nil_of_length_eq_zero l3]; rfl
            try rw [er]
            exact Wk.pickR [0, 1, 2, 3, 4, 5, 7]
        · repeat refine ⟨by omega, ?_⟩
          refine ⟨some (d3, 0 + 1), ⟨by simp only; omega, by simp only; omega⟩, ?_⟩
          obtain ⟨e1, e2, e3⟩ := hneg (by omega)
          simp only [e1, e2, e3]
          have er : [AV.i IntKind.i64 i] = encInt.row (s.run ++ [i]) := by rw [List.eq_nil_of_length_eq_zero l3]; rfl
          try rw [er]
          exact Wk.pickR [0, 1, 2, 3, 4, 5, 7]
      · simp only [l0_spec_l3Run, runB, not_true_eq_false, not_false_eq_true, decide_true, decide_false, Bool.not_true, Bool.not_false, false_implies, true_implies, and_true, true_and, Bool.false_eq_true, Bool.true_eq_false, implies_true, Bool.not_not, Classical.not_not, go_sem, Int.reduceToNat, List.take_nil, Nat.zero_mul, Nat.reduceEqDiff, Nat.reduceAdd, Nat.reduceLT, Nat.reduceLeDiff, Nat.reduceMul, ↓reduceIte, reduceCtorEq]
        simp only at hk
        refine ⟨fun hlt => ?_, fun hge => ?_⟩
        · refine spec_l3Best_ (L := L) (ks := ks) (by omega) (by omega) (leftOf_length _ _) h2 (Rd.own rfl) (Rd.len' rfl (leftOf_length _ _)) (Rd.own rfl) ?_
          rw [keyPick_left]
          have hlk := hlens k
          have hdk := hdone k
          have hpk := keyPick_range L ks k (simU L (keyPick L ks) k).done
          have hneg := @simU_neg L (keyPick L ks) k
          have hpos := @simU_pos L (keyPick L ks) k
          have hlo := leftOf_length L (simU L (keyPick L ks) k).done
          change (simU L (keyPick L ks) k).done.length = L.length ∧ (simU L (keyPick L ks) k).fin.length = L.length ∧ (simU L (keyPick L ks) k).run.length = k at hlk
          change ∀ (i : Nat), i < L.length → 0 ≤ gI (simU L (keyPick L ks) k).done i ∧ gI (simU L (keyPick L ks) k).done i ≤ k at hdk
          generalize hsk : simU L (keyPick L ks) k = s at *
          obtain ⟨l1, l2, l3⟩ := hlk
          generalize hi : keyPick L ks k s.done = i at *
          simp only [lenI, not_true_eq_false, not_false_eq_true, decide_true, decide_false, Bool.not_true, Bool.not_false, false_implies, true_implies, and_true, true_and, Bool.false_eq_true, Bool.true_eq_false, implies_true, Bool.not_not, Classical.not_not, go_sem, Int.reduceToNat, List.take_nil, Nat.zero_mul, Nat.reduceEqDiff, Nat.reduceAdd, Nat.reduceLT, Nat.reduceLeDiff, Nat.reduceMul, ↓reduceIte, reduceCtorEq]
          refine ⟨by omega, fun d3 hd3 => ⟨fun hge => ?_, fun hneg0 => ?_⟩⟩
          · obtain ⟨n, rfl⟩ := Int.eq_ofNat_of_zero_le (show 0 ≤ i by omega)
            have hnL : n < L.length := by omega
            have hnl : n < (leftOf L s.done).length := by omega
            have hnf : n < s.fin.length := by omega
            obtain ⟨e1, e2, e3⟩ := hpos rfl hnL
            have gl : gI (leftOf L s.done) n = (leftOf L s.done)[n] := by simp [gI, List.getD_eq_getElem?_getD, hnl]
            rw [gl] at e1 e2
            have hv : (leftOf L s.done)[n] = (L.getD n default).E - gI s.done n := leftOf_get _ _ _ _
            have hEn := hE _ (List.getElem_mem hnL)
            have hLn : L.getD n default = L[n] := by simp [List.getD_eq_getElem?_getD, hnL]
            rw [hLn] at hv
            have hdn := hdk n hnL
            have hns : n < ((leftOf L s.done).set n ((leftOf L s.done)[n] - 1)).length := by rw [List.length_set]; exact hnl
            have gs : ((leftOf L s.done).set n ((leftOf L s.done)[n] - 1))[n] = (leftOf L s.done)[n] - 1 := List.getElem_set_self ..
            simp only [Int.toNat_natCast, rdI hnl, splI hnl, rdI hns, gs, splI hnf, List.length_set, lenI, hlo, l2, not_true_eq_false, not_false_eq_true, decide_true, decide_false, Bool.not_true, Bool.not_false, false_implies, true_implies, and_true, true_and, Bool.false_eq_true, Bool.true_eq_false, implies_true, Bool.not_not, Classical.not_not, go_sem, Int.reduceToNat, List.take_nil, Nat.zero_mul, Nat.reduceEqDiff, Nat.reduceAdd, Nat.reduceLT, Nat.reduceLeDiff, Nat.reduceMul, ↓reduceIte, reduceCtorEq]
            repeat refine ⟨by omega, ?_⟩
            refine ⟨fun he => ?_, fun he => ?_⟩
            · repeat refine ⟨by omega, ?_⟩
              refine ⟨some (d3, k + 1), ⟨by simp only; omega, by simp only; omega⟩, ?_⟩
              rw [if_pos he] at e2
              simp only [e1, e2, e3]
              have er : List.take k (encInt.row s.run) ++ [AV.i IntKind.i64 n] = encInt.row (s.run ++ [(n : Int)]) := by rw [List.take_of_length_le (by simp [lenI]; omega), appI]
              try rw [er]
              exact Wk.pickR [0, 1, 2, 3, 4, 5, 8]
            · repeat refine ⟨by omega, ?_⟩
              refine ⟨some (d3, k + 1), ⟨by simp only; omega, by simp only; omega⟩, ?_⟩
              rw [if_neg he] at e2
              simp only [e1, e2, e3]
              have er : List.take k (encInt.row s.run) ++ [AV.i IntKind.i64 n] = encInt.row (s.run ++ [(n : Int)]) := by rw [List.take_of_length_le (by simp [lenI]; omega), appI]
              try rw [er]
              exact Wk.pickR [0, 1, 2, 3, 4, 5, 8]
          · repeat refine ⟨by omega, ?_⟩
            refine ⟨some (d3, k + 1), ⟨by simp only; omega, by simp only; omega⟩, ?_⟩
            obtain ⟨e1, e2, e3⟩ := hneg (by omega)
            simp only [e1, e2, e3]
            have er : List.take k (encInt.row s.run) ++ [AV.i IntKind.i64 i] = encInt.row (s.run ++ [i]) := by rw [List.take_of_length_le (by simp [lenI]; omega), appI]
            try rw [er]
            exact Wk.pickR [0, 1, 2, 3, 4, 5, 8]
        · have ek : k = 120 := by omega
          subst ek
          have hf := (hlens 120).2.1
          change (simU L (keyPick L ks) 120).fin.length = L.length at hf
          refine Fin.pickR [0, 1, 6, 5] (.agg [.sl 2 0 120 c3, .sl 3 0 L.length c2]) [.ro (encJob.row L), .ro (encInt.row ks), .rw ty_int (encInt.row (simU L (keyPick L ks) 120).run) c3, .rw ty_int (encInt.row (simU L (keyPick L ks) 120).fin) c2] ⟨_, rfl, .inr ⟨trivial, c3, c2, .inl ⟨?_, by rw [hf], rfl⟩⟩⟩
          intro h0; rw [h0] at hf; simp at hf; omega
end Go.Proofs.Ytmphblbpofnpaaa
