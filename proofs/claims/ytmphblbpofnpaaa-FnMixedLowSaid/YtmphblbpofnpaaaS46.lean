import Derived.Test.YtmphblbpofnpaaaS45
import Derived.Test.YtmphblbpofnpaaaSX
namespace Go.Proofs.Ytmphblbpofnpaaa
open Go.Abs Go.Ds
set_option linter.unusedSimpArgs false
set_option linter.unusedVariables false
set_option maxRecDepth 20000
set_option maxHeartbeats 4000000
theorem Rd.owl {α : Type} {E : Enc α} {σ : List AB} {n len cap : Nat} {L : List α} (h : cellsOf σ n = some (E.row L)) (hl : L.length = len) : Rd E σ (.sl n 0 len cap) L := by subst hl; exact Rd.own h
theorem gI_at {l : List Int} {k : Nat} (h : k < l.length) : gI l (k : Int) = l[k] := by simp [gI, List.getD_eq_getElem?_getD, h]
/-- What is asked of a pattern. -/
structure MxOk (S : List MTask) (L : List Job) (nu de : Int) : Prop where
  L : mixLegal S L
  f : (0 ≤ nu ∧ nu ≤ 27720) ∧ 0 < de ∧ de ≤ 27720
theorem MxOk.E {S : List MTask} {L : List Job} {nu de : Int} (h : MxOk S L nu de) : ∀ j ∈ L, 1 ≤ j.E := fun j hj => (h.L.2.1.mem hj).2.2.1
theorem MxOk.R {S : List MTask} {L : List Job} {nu de : Int} (h : MxOk S L nu de) : ∀ j ∈ L, 0 ≤ j.R := fun j hj => (h.L.2.1.mem hj).2.1.1
theorem MxOk.E12 {S : List MTask} {L : List Job} {nu de : Int} (h : MxOk S L nu de) : ∀ j ∈ L, j.E ≤ 12 := fun j hj => by
  have h1 := h.L.2.1.mem hj
  have h2 := gM_ok h.L.1 h1.1.1 h1.1.2
  unfold MTask.ok at h2
  unfold hiOf at h1
  omega
theorem MxOk.Lo {S : List MTask} {L : List Job} {nu de : Int} (h : MxOk S L nu de) : ∀ i, i < L.length → 1 ≤ (gM S (L.getD i default).T).Lo := fun i hi => by
  rw [show L.getD i default = L[i] by simp [List.getD_eq_getElem?_getD, hi]]
  have h1 := h.L.2.1.mem (List.getElem_mem hi)
  have h2 := gM_ok h.L.1 h1.1.1 h1.1.2
  unfold MTask.ok at h2
  omega
def halfM (S : List MTask) (L : List Job) (frm now : Int) (done : List Int) (k : Nat) : List Int := (List.range L.length).map fun (i : Nat) => if i < k then gI (leftM S L now done) i else gI (leftM S L frm done) i
theorem halfM_zero (S : List MTask) (L : List Job) (frm now : Int) (done : List Int) : halfM S L frm now done 0 = leftM S L frm done := by
  unfold halfM
  simp only [Nat.not_lt_zero, if_false]
  exact leftM_all (leftM_len S L frm done)
theorem halfM_all (S : List MTask) (L : List Job) (frm now : Int) (done : List Int) : halfM S L frm now done L.length = leftM S L now done := by
  have h : halfM S L frm now done L.length = (List.range L.length).map fun (i : Nat) => gI (leftM S L now done) i := by
    unfold halfM
    apply List.map_congr_left
    intro i hi
    rw [if_pos (List.mem_range.1 hi)]
  rw [h]
  exact leftM_all (leftM_len S L now done)
theorem halfM_len (S : List MTask) (L : List Job) (frm now : Int) (done : List Int) (k : Nat) : (halfM S L frm now done k).length = L.length := by simp [halfM]
def mxA (S : List MTask) (L : List Job) (nu de : Int) (c c' : Nat) : Option (Nat × Nat × Nat) → St
  | none => ⟨[(0, .sl 0 0 S.length c), (1, .sl 1 0 L.length c'), (4, .p 2 0), (5, .p 3 0), (7, .p 4 0), (8, .sl 5 0 0 0), (9, .i .i64 0)], [.ro (encMT.row S), .ro (encJob.row L), .rw ty_impl_MixedRun [.sn, .sn, .i .i64 0] 3, .rw ty_impl_Fraction [.i .i64 nu, .i .i64 de] 2, .rw ty_impl_MixedRun [.sn, .sn, .i .i64 (-1)] 3, .rw ty_int [] 0]⟩
  | some (c1, c2, k) => ⟨[(0, .sl 0 0 S.length c), (1, .sl 1 0 L.length c'), (4, .p 2 0), (5, .p 3 0), (7, .p 4 0), (8, .sl 5 0 k c1), (9, .i .i64 k)], [.ro (encMT.row S), .ro (encJob.row L), .rw ty_impl_MixedRun [.sn, .sn, .i .i64 0] 3, .rw ty_impl_Fraction [.i .i64 nu, .i .i64 de] 2, .rw ty_impl_MixedRun [.sn, .sl 6 0 k c2, .i .i64 (-1)] 3, .rw ty_int (encInt.row ((L.take k).map Job.E)) c1, .rw ty_int (encInt.row (List.replicate k (-1))) c2]⟩
def mxB (S : List MTask) (L : List Job) (nu de : Int) (c c' c1 c2 : Nat) : Option (Nat × Nat) → St
  | none => ⟨[(0, .sl 0 0 S.length c), (1, .sl 1 0 L.length c'), (4, .p 2 0), (5, .p 3 0), (7, .p 4 0), (8, .sl 5 0 L.length c1), (10, .b (mixS S nu de L 0).st.high), (11, .i .i64 ((0 : Nat) : Int))], [.ro (encMT.row S), .ro (encJob.row L), .rw ty_impl_MixedRun [.sn, .sn, .i .i64 0] 3, .rw ty_impl_Fraction [.i .i64 nu, .i .i64 de] 2, .rw ty_impl_MixedRun [.sn, .sl 6 0 L.length c2, .i .i64 (mixS S nu de L 0).st.first] 3, .rw ty_int (encInt.row (leftM S L (mixS S nu de L 0).st.frm (mixS S nu de L 0).done)) c1, .rw ty_int (encInt.row (mixS S nu de L 0).fin) c2]⟩
  | some (c3, k) => ⟨[(0, .sl 0 0 S.length c), (1, .sl 1 0 L.length c'), (4, .p 2 0), (5, .p 3 0), (7, .p 4 0), (8, .sl 5 0 L.length c1), (10, .b (mixS S nu de L k).st.high), (11, .i .i64 k)], [.ro (encMT.row S), .ro (encJob.row L), .rw ty_impl_MixedRun [.sn, .sn, .i .i64 0] 3, .rw ty_impl_Fraction [.i .i64 nu, .i .i64 de] 2, .rw ty_impl_MixedRun [.sl 7 0 k c3, .sl 6 0 L.length c2, .i .i64 (mixS S nu de L k).st.first] 3, .rw ty_int (encInt.row (leftM S L (mixS S nu de L k).st.frm (mixS S nu de L k).done)) c1, .rw ty_int (encInt.row (mixS S nu de L k).fin) c2, .rw ty_int (encInt.row (mixS S nu de L k).run) c3]⟩
def MixQ (N : Nat) (ok : Prop) (run fin : List Int) (sw : Int) (x : AV) (τ : List AB) : Prop :=
  (¬ ok ∧ x = .agg [.sn, .sn, .i .i64 0] ∧ τ = []) ∨ (ok ∧ ∃ c1 c2, (fin ≠ [] ∧ x = .agg [.sl N 0 120 c1, .sl (N + 1) 0 fin.length c2, .i .i64 sw] ∧ τ = [.rw ty_int (encInt.row run) c1, .rw ty_int (encInt.row fin) c2]) ∨ (fin = [] ∧ x = .agg [.sl N 0 120 c1, .sn, .i .i64 sw] ∧ τ = [.rw ty_int (encInt.row run) c1]))
theorem MixQ.fr {N : Nat} {ok : Prop} {run fin : List Int} {sw : Int} {x : AV} {τ : List AB} (h : MixQ N ok run fin sw x τ) : τ.all plainRw = true ∧ freshA N x = true := by
  rcases h with ⟨_, rfl, rfl⟩ | ⟨_, c1, c2, ⟨_, rfl, rfl⟩ | ⟨_, rfl, rfl⟩⟩
  · exact ⟨rfl, rfl⟩
  · simp [plainRw, encInt.row_flat, freshA, fresh1A, freshC, Abs.flat]
  · simp [plainRw, encInt.row_flat, freshA, fresh1A, freshC, Abs.flat]
theorem spec_RunMixed_cons (S : List MTask) (L : List Job) (nu de : Int) (hsc : scaleR S = some (nu, de)) (hL : mixLegal S L) (hne : 0 < L.length) (c c' : Nat) : CallWp Try.prog n_spec_RunMixed [.sl 0 0 S.length c, .sl 1 0 L.length c'] [.ro (encMT.row S), .ro (encJob.row L)]
    (fun x σ' => ∃ τ, σ' = [.ro (encMT.row S), .ro (encJob.row L)] ++ τ ∧ MixQ 2 (mixRunOk S L nu de) (mixRun S nu de L) (mixFin S nu de L) (mixSw S nu de L) x τ) := by
  have h60 := hL.2.1.1
  have h5 := hL.1.1
  have hb := scaleR_bound hsc
  have ok : MxOk S L nu de := ⟨hL, hb.2⟩
  have hf : (0 ≤ nu ∧ nu ≤ 27720) ∧ 0 ≤ de ∧ de ≤ 27720 := ⟨hb.2.1, by omega⟩
  refine call_spec_RunMixed (by simp) ?_
  simp only [c_spec_RunMixed, go_sem, Int.reduceToNat, List.take_nil, Nat.zero_mul, Nat.reduceEqDiff, Nat.reduceAdd, Nat.reduceLT, Nat.reduceLeDiff, Nat.reduceMul, ↓reduceIte, reduceCtorEq]
  refine spec_DeadlineScale_ (S := S) (by omega) (Rd.own rfl) ?_
  rw [hsc]
  simp only [scaleAV, not_true_eq_false, not_false_eq_true, decide_true, decide_false, Bool.not_true, Bool.not_false, false_implies, true_implies, and_true, true_and, Bool.false_eq_true, Bool.true_eq_false, implies_true, Bool.not_not, Classical.not_not, go_sem, Int.reduceToNat, List.take_nil, Nat.zero_mul, Nat.reduceEqDiff, Nat.reduceAdd, Nat.reduceLT, Nat.reduceLeDiff, Nat.reduceMul, ↓reduceIte, reduceCtorEq]
  refine spec_MixedLegal_ (S := S) (L := L) (by omega) (by omega) (Rd.own rfl) (Rd.own rfl) ?_
  simp only [hL, not_true_eq_false, not_false_eq_true, decide_true, decide_false, Bool.not_true, Bool.not_false, false_implies, true_implies, and_true, true_and, Bool.false_eq_true, Bool.true_eq_false, implies_true, Bool.not_not, Classical.not_not, go_sem, Int.reduceToNat, List.take_nil, Nat.zero_mul, Nat.reduceEqDiff, Nat.reduceAdd, Nat.reduceLT, Nat.reduceLeDiff, Nat.reduceMul, ↓reduceIte, reduceCtorEq]
  refine loop_intro (mxA S L nu de c c') (fun i => match i with | none => True | some (c1, _, k) => 1 ≤ k ∧ k ≤ L.length) (fun i => match i with | none => L.length | some (_, _, k) => L.length - k) none trivial (Wk.pickR [0, 1, 2, 3, 4, 5]) ?_
  rintro (_ | ⟨c1, c2, k⟩) hk
  · simp only [l2_spec_RunMixed, mxA, lenJ, rdJ3 hne, not_true_eq_false, not_false_eq_true, decide_true, decide_false, Bool.not_true, Bool.not_false, false_implies, true_implies, and_true, true_and, Bool.false_eq_true, Bool.true_eq_false, implies_true, Bool.not_not, Classical.not_not, go_sem, Int.reduceToNat, List.take_nil, Nat.zero_mul, Nat.reduceEqDiff, Nat.reduceAdd, Nat.reduceLT, Nat.reduceLeDiff, Nat.reduceMul, ↓reduceIte, reduceCtorEq]
    refine ⟨fun h => ⟨by omega, by omega, fun c1 h1 c2 h2 => ⟨by omega, some (c1, c2, 1), ⟨by simp only; omega, by simp only; omega⟩, ?_⟩⟩, fun h => absurd (show (0 : Int) < L.length by omega) h⟩
    have e : encInt.row ((L.take 1).map Job.E) = [AV.i .i64 L[0].E] := by
      rw [List.take_succ_eq_append_getElem hne]; rfl
    have e2 : encInt.row (List.replicate 1 (-1)) = [AV.i .i64 (-1)] := rfl
    simp only [e, e2]
    exact Wk.pickR [0, 1, 2, 3, 4, 7, 9]
  · simp only at hk
    simp only [l2_spec_RunMixed, mxA, lenJ, not_true_eq_false, not_false_eq_true, decide_true, decide_false, Bool.not_true, Bool.not_false, false_implies, true_implies, and_true, true_and, Bool.false_eq_true, Bool.true_eq_false, implies_true, Bool.not_not, Classical.not_not, go_sem, Int.reduceToNat, List.take_nil, Nat.zero_mul, Nat.reduceEqDiff, Nat.reduceAdd, Nat.reduceLT, Nat.reduceLeDiff, Nat.reduceMul, ↓reduceIte, reduceCtorEq]
    refine ⟨fun hlt => ?_, fun hlt => ?_⟩
    · have e0 : ((L.take k).map Job.E).length = k := by simp; omega
      have e1 : List.take k (encInt.row ((L.take k).map Job.E)) ++ [AV.i .i64 L[k].E] = encInt.row ((L.take (k + 1)).map Job.E) := by
        rw [List.take_of_length_le (by rw [lenI]; omega), appI, List.take_succ_eq_append_getElem hlt, List.map_append]; rfl
      have e2 : List.take k (encInt.row (List.replicate k (-1))) ++ [AV.i IntKind.i64 (-1)] = encInt.row (List.replicate (k + 1) (-1)) := by
        rw [List.take_of_length_le (by simp [lenI]), appI, ← List.replicate_succ']
      simp only [rdJ3 hlt, lenI, e0, e1, e2, List.length_replicate, not_true_eq_false, not_false_eq_true, decide_true, decide_false, Bool.not_true, Bool.not_false, false_implies, true_implies, and_true, true_and, Bool.false_eq_true, Bool.true_eq_false, implies_true, Bool.not_not, Classical.not_not, go_sem, Int.reduceToNat, List.take_nil, Nat.zero_mul, Nat.reduceEqDiff, Nat.reduceAdd, Nat.reduceLT, Nat.reduceLeDiff, Nat.reduceMul, ↓reduceIte, reduceCtorEq]
      refine ⟨by omega, by omega, by omega, fun d1 h1 => ⟨by omega, fun d2 h2 => ⟨by omega, some (d1, d2, k + 1), ⟨by simp only; omega, by simp only; omega⟩, ?_⟩⟩⟩
      simp only [show ((k + 1 : Nat) : Int) = (k : Int) + 1 from by omega]
      exact Wk.pickR [0, 1, 2, 3, 4, 8, 10]
    · have ek : k = L.length := by omega
      subst ek
      refine loop_intro (mxB S L nu de c c' c1 c2) (fun i => match i with | none => True | some (_, k) => 1 ≤ k ∧ k ≤ 120) (fun i => match i with | none => 120 | some (_, k) => 120 - k) none trivial (by
        have z1 : (mixS S nu de L 0).done = List.replicate L.length 0 := rfl
        have z2 : (mixS S nu de L 0).fin = List.replicate L.length (-1) := rfl
        have z3 : (mixS S nu de L 0).st = ⟨false, 0, -1⟩ := rfl
        simp only [mxB, z1, z2, z3, leftM_zero ok.R, List.take_length]
        exact Wk.pickR [0, 1, 2, 3, 4, 5, 6]) ?_
      have hfair := mix_fair S nu de L
      have hpf := pick_fairM S nu de L
      have hinv := mix_inv (nu := nu) (de := de) ok.E ok.Lo
      rintro (_ | ⟨c3, k⟩) hk
      · simp only [l1_spec_RunMixed, mxB, not_true_eq_false, not_false_eq_true, decide_true, decide_false, Bool.not_true, Bool.not_false, false_implies, true_implies, and_true, true_and, Bool.false_eq_true, Bool.true_eq_false, implies_true, Bool.not_not, Classical.not_not, go_sem, Int.reduceToNat, List.take_nil, Nat.zero_mul, Nat.reduceEqDiff, Nat.reduceAdd, Nat.reduceLT, Nat.reduceLeDiff, Nat.reduceMul, ↓reduceIte, reduceCtorEq]
        refine ⟨fun _ => ?_, fun h => absurd (by decide) h⟩
        have hstep := @mix_step S nu de L 0
        have hlk := sim_lens (L := L) (pick := mixPick S nu de L) (s0 := mix0) 0
        have hiv := hinv 0
        have hlp := @low_pre S nu de L ok.Lo 0 hiv
        have hst := hpf (mixS S nu de L 0).st 0 (mixS S nu de L 0).done
        have hel := @pick_elig S nu de L (mixS S nu de L 0).st 0 (mixS S nu de L 0).done
        have hbk := @pick_back S nu de L (mixS S nu de L 0).st 0 (mixS S nu de L 0).done
        have hpos := hiv.pos
        have hfrm := hiv.frm
        have hle : ∀ i, i < L.length → gI (mixS S nu de L 0).done i ≤ (L.getD i default).E := fun i hi => (hpos i hi).2
        change (mixS S nu de L 0).done.length = L.length ∧ (mixS S nu de L 0).fin.length = L.length ∧ (mixS S nu de L 0).run.length = 0 at hlk
        clear hiv
        generalize hs1 : mixS S nu de L (0 + 1) = s1 at *
        generalize mixS S nu de L 0 = s at *
        obtain ⟨l1, l2, l3⟩ := hlk
        have hb1 : sBest S nu de L (leftM S L s.st.frm s.done) s.st.high 0 = if s.st.high = true then vitBest S L 0 s.done else lowBest S nu de L s.st.frm 0 s.done := by
          cases s.st.high
          · rw [sBest_low hle]; rfl
          · rw [sBest_high ok.f.2.1 hle]; rfl
        have hvb := vit_fair S L 0 s.done
        refine spec_l15Best_ (S := S) (L := L) (Lf := leftM S L s.st.frm s.done) (now := 0) hL hf (leftM_len ..) (by omega) (Rd.own rfl) (Rd.own rfl) (Rd.owl rfl (leftM_len ..)) ?_
        rw [hb1]
        simp only [not_true_eq_false, not_false_eq_true, decide_true, decide_false, Bool.not_true, Bool.not_false, false_implies, true_implies, and_true, true_and, Bool.false_eq_true, Bool.true_eq_false, implies_true, Bool.not_not, Classical.not_not, go_sem, Int.reduceToNat, List.take_nil, Nat.zero_mul, Nat.reduceEqDiff, Nat.reduceAdd, Nat.reduceLT, Nat.reduceLeDiff, Nat.reduceMul, ↓reduceIte, reduceCtorEq]
        refine seq_join (fun _ : Unit => ⟨[(0, .sl 0 0 S.length c), (1, .sl 1 0 L.length c'), (4, .p 2 0), (5, .p 3 0), (7, .p 4 0), (8, .sl 5 0 L.length c1), (10, .b (stBack S L s.st 0 s.done).high), (11, .i .i64 ((0 : Nat) : Int)), (12, .i .i64 (mixPick S nu de L s.st 0 s.done).1)], [.ro (encMT.row S), .ro (encJob.row L), .rw ty_impl_MixedRun [.sn, .sn, .i .i64 0] 3, .rw ty_impl_Fraction [.i .i64 nu, .i .i64 de] 2, .rw ty_impl_MixedRun [.sn, .sl 6 0 L.length c2, .i .i64 s.st.first] 3, .rw ty_int (encInt.row (leftM S L (stBack S L s.st 0 s.done).frm s.done)) c1, .rw ty_int (encInt.row s.fin) c2]⟩) (fun _ => True) ?_ ?_
        · cases hhi : s.st.high
          · have e1 : (stBack S L s.st 0 s.done) = s.st := by unfold stBack; rw [hhi]; simp
            have e2 : (mixPick S nu de L s.st 0 s.done).1 = lowBest S nu de L s.st.frm 0 s.done := by rw [hbk.2 (by rw [e1]; exact hhi), e1]
            rw [e1, e2]
            simp only [hhi, not_true_eq_false, not_false_eq_true, decide_true, decide_false, Bool.not_true, Bool.not_false, false_implies, true_implies, and_true, true_and, Bool.false_eq_true, Bool.true_eq_false, implies_true, Bool.not_not, Classical.not_not, go_sem, Int.reduceToNat, List.take_nil, Nat.zero_mul, Nat.reduceEqDiff, Nat.reduceAdd, Nat.reduceLT, Nat.reduceLeDiff, Nat.reduceMul, ↓reduceIte, reduceCtorEq]
            exact kJ_intro () trivial (Wk.pickR [0, 1, 2, 3, 4, 5, 6])
          · by_cases hneg : vitBest S L 0 s.done < 0
            · have e1 : (stBack S L s.st 0 s.done) = ⟨false, (0 : Nat), s.st.first⟩ := by unfold stBack; rw [if_pos ⟨hhi, hneg⟩]
              have e2 : (mixPick S nu de L s.st 0 s.done).1 = lowBest S nu de L ((0 : Nat) : Int) 0 s.done := by rw [hbk.2 (by rw [e1]), e1]
              rw [e1, e2]
              simp only [hhi, hneg, not_true_eq_false, not_false_eq_true, decide_true, decide_false, Bool.not_true, Bool.not_false, false_implies, true_implies, and_true, true_and, Bool.false_eq_true, Bool.true_eq_false, implies_true, Bool.not_not, Classical.not_not, go_sem, Int.reduceToNat, List.take_nil, Nat.zero_mul, Nat.reduceEqDiff, Nat.reduceAdd, Nat.reduceLT, Nat.reduceLeDiff, Nat.reduceMul, ↓reduceIte, reduceCtorEq]
              refine loop_count L.length (fun i => ⟨[(0, .sl 0 0 S.length c), (1, .sl 1 0 L.length c'), (4, .p 2 0), (5, .p 3 0), (7, .p 4 0), (8, .sl 5 0 L.length c1), (10, .b false), (11, .i .i64 ((0 : Nat) : Int)), (13, .i .i64 i)], [.ro (encMT.row S), .ro (encJob.row L), .rw ty_impl_MixedRun [.sn, .sn, .i .i64 0] 3, .rw ty_impl_Fraction [.i .i64 nu, .i .i64 de] 2, .rw ty_impl_MixedRun [.sn, .sl 6 0 L.length c2, .i .i64 s.st.first] 3, .rw ty_int (encInt.row (halfM S L s.st.frm ((0 : Nat) : Int) s.done i)) c1, .rw ty_int (encInt.row s.fin) c2]⟩) (fun _ => True) trivial (by simp only [halfM_zero]; exact Wk.pickR [0, 1, 2, 3, 4, 5, 6]) fun i hi' _ => ?_
              simp only [l0_spec_RunMixed, not_true_eq_false, not_false_eq_true, decide_true, decide_false, Bool.not_true, Bool.not_false, false_implies, true_implies, and_true, true_and, Bool.false_eq_true, Bool.true_eq_false, implies_true, Bool.not_not, Classical.not_not, go_sem, Int.reduceToNat, List.take_nil, Nat.zero_mul, Nat.reduceEqDiff, Nat.reduceAdd, Nat.reduceLT, Nat.reduceLeDiff, Nat.reduceMul, ↓reduceIte, reduceCtorEq]
              refine ⟨fun hil => ?_, fun hil => ?_⟩
              · have hTi := (hL.2.1.mem (List.getElem_mem hil)).1
                obtain ⟨q, hq⟩ := Int.eq_ofNat_of_zero_le hTi.1
                have hqS : q < S.length := by omega
                have gL : L.getD i default = L[i] := by simp [List.getD_eq_getElem?_getD, hil]
                have hv : vitJ S L i = S[q].V := by unfold vitJ; rw [gL, hq, gM_nat hqS]
                have hsucc : halfM S L s.st.frm ((0 : Nat) : Int) s.done (i + 1) = if dropJ S L ((0 : Nat) : Int) i = true then (halfM S L s.st.frm ((0 : Nat) : Int) s.done i).set i 0 else halfM S L s.st.frm ((0 : Nat) : Int) s.done i := leftM_drop hfrm.2 hil
                have hdr : dropJ S L ((0 : Nat) : Int) i = (!S[q].V && decide (L[i].R < ((0 : Nat) : Int))) := by unfold dropJ; rw [gL, hv]
                have hlen := halfM_len S L s.st.frm ((0 : Nat) : Int) s.done i
                rw [hdr] at hsucc
                generalize halfM S L s.st.frm ((0 : Nat) : Int) s.done (i + 1) = M1 at *
                generalize halfM S L s.st.frm ((0 : Nat) : Int) s.done i = M0 at *
                have hiM : i < M0.length := by omega
                simp only [rdJ1 hil, rdJ0 hil, hq, Int.toNat_natCast, rdM3 hqS, splI hiM, lenI, lenJ, lenM, hlen, not_true_eq_false, not_false_eq_true, decide_true, decide_false, Bool.not_true, Bool.not_false, false_implies, true_implies, and_true, true_and, Bool.false_eq_true, Bool.true_eq_false, implies_true, Bool.not_not, Classical.not_not, go_sem, Int.reduceToNat, List.take_nil, Nat.zero_mul, Nat.reduceEqDiff, Nat.reduceAdd, Nat.reduceLT, Nat.reduceLeDiff, Nat.reduceMul, ↓reduceIte, reduceCtorEq]
                by_cases hR : L[i].R < ((0 : Nat) : Int)
                · rw [decide_eq_true hR, Bool.and_true] at hsucc
                  cases hV : S[q].V
                  · rw [hV] at hsucc
                    rw [hsucc, if_pos (show (!false) = true from rfl)]
                    simp only [hR, not_true_eq_false, not_false_eq_true, decide_true, decide_false, Bool.not_true, Bool.not_false, false_implies, true_implies, and_true, true_and, Bool.false_eq_true, Bool.true_eq_false, implies_true, Bool.not_not, Classical.not_not, go_sem, Int.reduceToNat, List.take_nil, Nat.zero_mul, Nat.reduceEqDiff, Nat.reduceAdd, Nat.reduceLT, Nat.reduceLeDiff, Nat.reduceMul, ↓reduceIte, reduceCtorEq]
                    repeat' first | omega | exact Wk.pickR [0, 1, 2, 3, 4, 5, 6] | refine ⟨?_, ?_⟩ | intro _
                  · rw [hV] at hsucc
                    rw [hsucc, if_neg (by simp)]
                    simp only [hR, not_true_eq_false, not_false_eq_true, decide_true, decide_false, Bool.not_true, Bool.not_false, false_implies, true_implies, and_true, true_and, Bool.false_eq_true, Bool.true_eq_false, implies_true, Bool.not_not, Classical.not_not, go_sem, Int.reduceToNat, List.take_nil, Nat.zero_mul, Nat.reduceEqDiff, Nat.reduceAdd, Nat.reduceLT, Nat.reduceLeDiff, Nat.reduceMul, ↓reduceIte, reduceCtorEq]
                    repeat' first | omega | exact Wk.pickR [0, 1, 2, 3, 4, 5, 6] | refine ⟨?_, ?_⟩ | intro _
                · rw [decide_eq_false hR, Bool.and_false, if_neg (by simp)] at hsucc
                  rw [hsucc]
                  simp only [hR, not_true_eq_false, not_false_eq_true, decide_true, decide_false, Bool.not_true, Bool.not_false, false_implies, true_implies, and_true, true_and, Bool.false_eq_true, Bool.true_eq_false, implies_true, Bool.not_not, Classical.not_not, go_sem, Int.reduceToNat, List.take_nil, Nat.zero_mul, Nat.reduceEqDiff, Nat.reduceAdd, Nat.reduceLT, Nat.reduceLeDiff, Nat.reduceMul, ↓reduceIte, reduceCtorEq]
                  repeat' first | omega | exact Wk.pickR [0, 1, 2, 3, 4, 5, 6] | refine ⟨?_, ?_⟩ | intro _
              · have ei : i = L.length := by omega
                subst ei
                rw [halfM_all]
                refine spec_l15Best_ (S := S) (L := L) (Lf := leftM S L ((0 : Nat) : Int) s.done) (now := 0) hL hf (leftM_len ..) (by omega) (Rd.own rfl) (Rd.own rfl) (Rd.owl rfl (leftM_len ..)) ?_
                rw [sBest_low hle]
                simp only [not_true_eq_false, not_false_eq_true, decide_true, decide_false, Bool.not_true, Bool.not_false, false_implies, true_implies, and_true, true_and, Bool.false_eq_true, Bool.true_eq_false, implies_true, Bool.not_not, Classical.not_not, go_sem, Int.reduceToNat, List.take_nil, Nat.zero_mul, Nat.reduceEqDiff, Nat.reduceAdd, Nat.reduceLT, Nat.reduceLeDiff, Nat.reduceMul, ↓reduceIte, reduceCtorEq]
                exact kJ_intro () trivial (Wk.pickR [0, 1, 2, 3, 4, 5, 6])
            · have e1 : (stBack S L s.st 0 s.done) = s.st := by unfold stBack; rw [if_neg fun h => hneg h.2]
              have e2 : (mixPick S nu de L s.st 0 s.done).1 = vitBest S L 0 s.done := by rw [hbk.1 (by rw [e1]; exact hhi)]
              rw [e1, e2]
              simp only [hhi, hneg, not_true_eq_false, not_false_eq_true, decide_true, decide_false, Bool.not_true, Bool.not_false, false_implies, true_implies, and_true, true_and, Bool.false_eq_true, Bool.true_eq_false, implies_true, Bool.not_not, Classical.not_not, go_sem, Int.reduceToNat, List.take_nil, Nat.zero_mul, Nat.reduceEqDiff, Nat.reduceAdd, Nat.reduceLT, Nat.reduceLeDiff, Nat.reduceMul, ↓reduceIte, reduceCtorEq]
              exact kJ_intro () trivial (Wk.pickR [0, 1, 2, 3, 4, 5, 6])
        · rintro _ _
          have hfirst : (stBack S L s.st 0 s.done).first = s.st.first := by unfold stBack; split <;> rfl
          generalize hmp : mixPick S nu de L s.st 0 s.done = p at *
          obtain ⟨i, st'⟩ := p
          obtain ⟨q1, q2, q3, q4⟩ := hstep rfl
          simp only at hst hel hbk
          generalize (stBack S L s.st 0 s.done) = st2 at *
          simp only [lenI, l3, not_true_eq_false, not_false_eq_true, decide_true, decide_false, Bool.not_true, Bool.not_false, false_implies, true_implies, and_true, true_and, Bool.false_eq_true, Bool.true_eq_false, implies_true, Bool.not_not, Classical.not_not, go_sem, Int.reduceToNat, List.take_nil, Nat.zero_mul, Nat.reduceEqDiff, Nat.reduceAdd, Nat.reduceLT, Nat.reduceLeDiff, Nat.reduceMul, ↓reduceIte, reduceCtorEq]
          refine  fun d4 h4 => ⟨fun hneg => ?_, fun hge => ?_⟩
          · obtain ⟨q5, q6⟩ := q3 hneg
            have hst2 : st' = st2 := by
              cases hh : st2.high
              · have := hbk.2 hh
                rw [Prod.mk.injEq] at this
                rw [this.2, if_neg fun hov => by have := hov.1; omega]
              · have := hbk.1 hh
                rw [Prod.mk.injEq] at this
                exact this.2
            refine ⟨by omega, some (d4, 0 + 1), ⟨by simp only; omega, by simp only; omega⟩, ?_⟩
            have er : [AV.i IntKind.i64 i] = encInt.row (s.run ++ [i]) := by rw [List.eq_nil_of_length_eq_zero l3]; rfl
            try rw [er]
            simp only [hs1, q1, q2, q5, q6, hst2, hfirst, show ((0 + 1 : Nat) : Int) = ((0 : Nat) : Int) + 1 from by omega]
            exact Wk.pickR [0, 1, 2, 3, 4, 5, 6, 8]
          · rcases hst with e0 | ⟨n, e0, hnL, hrd⟩
            · omega
            subst e0
            obtain ⟨q5, q6⟩ := q4 n rfl
            obtain ⟨hdrop, hvith⟩ := hel (n := n) rfl
            have hnd : n < s.done.length := by omega
            have hnf : n < s.fin.length := by omega
            have gL : L.getD n default = L[n] := by simp [List.getD_eq_getElem?_getD, hnL]
            have gd : gI s.done n = s.done[n] := gI_at hnd
            have hTn := (hL.2.1.mem (List.getElem_mem hnL)).1
            have hEn := ok.E12 _ (List.getElem_mem hnL)
            obtain ⟨q, hq⟩ := Int.eq_ofNat_of_zero_le hTn.1
            have hqS : q < S.length := by omega
            have hv : vitJ S L n = S[q].V := by unfold vitJ; rw [gL, hq, gM_nat hqS]
            have hps := hpos n hnL
            rw [gL, gd] at hps
            unfold readyJ at hrd
            rw [decide_eq_true_eq, gL, gd] at hrd
            have hLfl := leftM_len S L st2.frm s.done
            have hnLf : n < (leftM S L st2.frm s.done).length := by omega
            have hLfn : (leftM S L st2.frm s.done)[n] = L[n].E - s.done[n] := by rw [leftM_get, if_neg (by rw [hdrop]; simp), gL, gd]
            have hgLf : gI (leftM S L st2.frm s.done) n = L[n].E - s.done[n] := by rw [gI_at hnLf, hLfn]
            have hset := leftM_set (S := S) (frm := st2.frm) hnL l1 hdrop
            rw [← q5, hgLf] at hset
            rw [gd, gL] at q6
            have hov : overJ S L s.done n ↔ (S[q].V = true ∧ s.done[n] + 1 = S[q].Lo ∧ s.done[n] + 1 < L[n].E) := by
              unfold overJ
              rw [Int.toNat_natCast, gL, gd, hq, gM_nat hqS, hv]
              exact ⟨fun h => h.2, fun h => ⟨by omega, h⟩⟩
            have hlo : st2.high = false → S[q].V = true → s.done[n] < S[q].Lo := fun h1 h2 => by
              have := hlp h1 hnL (by rw [hv]; exact h2)
              rw [gL, gd, hq, gM_nat hqS] at this
              omega
            have hlen1 : (leftM S L st2.frm s1.done).length = L.length := leftM_len ..
            generalize hL1e : leftM S L st2.frm s1.done = Lf1 at *
            generalize leftM S L st2.frm s.done = Lf at *
            have hnL1 : n < Lf1.length := by omega
            have hL1n : Lf1[n] = L[n].E - s.done[n] - 1 := by simp [hset]
            simp only [Int.toNat_natCast, rdI hnLf, hLfn, splI hnLf, ← hset, lenI, hLfl, not_true_eq_false, not_false_eq_true, decide_true, decide_false, Bool.not_true, Bool.not_false, false_implies, true_implies, and_true, true_and, Bool.false_eq_true, Bool.true_eq_false, implies_true, Bool.not_not, Classical.not_not, go_sem, Int.reduceToNat, List.take_nil, Nat.zero_mul, Nat.reduceEqDiff, Nat.reduceAdd, Nat.reduceLT, Nat.reduceLeDiff, Nat.reduceMul, ↓reduceIte, reduceCtorEq]
            iterate 5 refine ⟨by omega, ?_⟩
            have er : [AV.i IntKind.i64 n] = encInt.row (s.run ++ [(n : Int)]) := by rw [List.eq_nil_of_length_eq_zero l3]; rfl
            rw [er]
            refine seq_join (fun _ : Unit => ⟨[(0, .sl 0 0 S.length c), (1, .sl 1 0 L.length c'), (4, .p 2 0), (5, .p 3 0), (7, .p 4 0), (8, .sl 5 0 L.length c1), (10, .b st2.high), (11, .i .i64 ((0 : Nat) : Int)), (12, .i .i64 n)], [.ro (encMT.row S), .ro (encJob.row L), .rw ty_impl_MixedRun [.sn, .sn, .i .i64 0] 3, .rw ty_impl_Fraction [.i .i64 nu, .i .i64 de] 2, .rw ty_impl_MixedRun [.sl 7 0 (0 + 1) d4, .sl 6 0 L.length c2, .i .i64 s.st.first] 3, .rw ty_int (encInt.row Lf1) c1, .rw ty_int (encInt.row s1.fin) c2, .rw ty_int (encInt.row s1.run) d4]⟩) (fun _ => True) ?_ ?_
            · simp only [Int.toNat_natCast, rdI hnL1, hL1n, splI hnf, lenI, hlen1, l2, not_true_eq_false, not_false_eq_true, decide_true, decide_false, Bool.not_true, Bool.not_false, false_implies, true_implies, and_true, true_and, Bool.false_eq_true, Bool.true_eq_false, implies_true, Bool.not_not, Classical.not_not, go_sem, Int.reduceToNat, List.take_nil, Nat.zero_mul, Nat.reduceEqDiff, Nat.reduceAdd, Nat.reduceLT, Nat.reduceLeDiff, Nat.reduceMul, ↓reduceIte, reduceCtorEq]
              repeat refine ⟨by omega, ?_⟩
              refine ⟨fun he => ?_, fun he => ?_⟩
              · rw [if_pos (by omega)] at q6
                iterate 3 refine ⟨by omega, ?_⟩
                rw [q6, q2]
                exact kJ_intro () trivial (Wk.pickR [0, 1, 2, 3, 4, 5, 6, 8])
              · rw [if_neg (by omega)] at q6
                rw [q6, q2]
                exact kJ_intro () trivial (Wk.pickR [0, 1, 2, 3, 4, 5, 6, 8])
            · rintro _ _
              simp only [Int.toNat_natCast, rdJ0 hnL, hq, winM hqS, encMf, rdI hnL1, hL1n, rdJ3 hnL, lenI, lenJ, lenM, hlen1, not_true_eq_false, not_false_eq_true, decide_true, decide_false, Bool.not_true, Bool.not_false, false_implies, true_implies, and_true, true_and, Bool.false_eq_true, Bool.true_eq_false, implies_true, Bool.not_not, Classical.not_not, go_sem, Int.reduceToNat, List.take_nil, Nat.zero_mul, Nat.reduceEqDiff, Nat.reduceAdd, Nat.reduceLT, Nat.reduceLeDiff, Nat.reduceMul, ↓reduceIte, reduceCtorEq]
              have fin1 : ∀ (hh : Bool) (fi : Int), st' = ⟨hh, st2.frm, fi⟩ → s1.st.high = hh ∧ s1.st.first = fi ∧ leftM S L s1.st.frm s1.done = Lf1 := fun hh fi h => by
                rw [q1, h]; exact ⟨rfl, rfl, hL1e⟩
              iterate 4 refine ⟨by omega, ?_⟩
              cases hV : S[q].V
              · have hst' : st' = ⟨st2.high, st2.frm, st2.first⟩ := by
                  cases hh : st2.high
                  · have := hbk.2 hh
                    rw [Prod.mk.injEq] at this
                    obtain ⟨t1, t2⟩ := this
                    rw [← t1] at t2
                    rw [t2, if_neg fun h => by have h1 := (hov.1 h).1; rw [hV] at h1; simp at h1]
                    rw [← hh]
                  · have := hbk.1 hh
                    rw [Prod.mk.injEq] at this
                    rw [this.2, ← hh]
                obtain ⟨f1, f2, f3⟩ := fin1 _ _ hst'
                simp only [not_true_eq_false, not_false_eq_true, decide_true, decide_false, Bool.not_true, Bool.not_false, false_implies, true_implies, and_true, true_and, Bool.false_eq_true, Bool.true_eq_false, implies_true, Bool.not_not, Classical.not_not, go_sem, Int.reduceToNat, List.take_nil, Nat.zero_mul, Nat.reduceEqDiff, Nat.reduceAdd, Nat.reduceLT, Nat.reduceLeDiff, Nat.reduceMul, ↓reduceIte, reduceCtorEq]
                refine ⟨by omega, some (d4, 0 + 1), ⟨by simp only; omega, by simp only; omega⟩, ?_⟩
                simp only [hs1, f1, f2, f3, hfirst, show ((0 + 1 : Nat) : Int) = ((0 : Nat) : Int) + 1 from by omega]
                exact Wk.pickR [0, 1, 2, 3, 4, 5, 6, 7]
              · cases hh : st2.high
                · have hpk := hbk.2 hh
                  rw [Prod.mk.injEq] at hpk
                  rw [← hpk.1] at hpk
                  have hlo := hlo hh hV
                  have stay : ¬ (s.done[n] + 1 = S[q].Lo ∧ s.done[n] + 1 < L[n].E) → s1.st.high = false ∧ s1.st.first = st2.first ∧ leftM S L s1.st.frm s1.done = Lf1 := fun hno =>
                    fin1 false st2.first (by rw [hpk.2, if_neg fun h => hno (hov.1 h).2, ← hh])
                  have over : s.done[n] + 1 = S[q].Lo ∧ s.done[n] + 1 < L[n].E → s1.st.high = true ∧ s1.st.first = (if st2.first < 0 then ((0 : Nat) : Int) + 1 else st2.first) ∧ leftM S L s1.st.frm s1.done = Lf1 := fun hyes =>
                    fin1 true _ (by rw [hpk.2, if_pos (hov.2 ⟨hV, hyes⟩)])
                  rw [hfirst] at stay over
                  simp only [not_true_eq_false, not_false_eq_true, decide_true, decide_false, Bool.not_true, Bool.not_false, false_implies, true_implies, and_true, true_and, Bool.false_eq_true, Bool.true_eq_false, implies_true, Bool.not_not, Classical.not_not, go_sem, Int.reduceToNat, List.take_nil, Nat.zero_mul, Nat.reduceEqDiff, Nat.reduceAdd, Nat.reduceLT, Nat.reduceLeDiff, Nat.reduceMul, ↓reduceIte, reduceCtorEq]
                  refine ⟨by omega, by omega, fun g1 => ⟨by omega, by omega, by omega, by omega, by omega, fun g2 => ?_, fun g2 => ?_⟩, fun g1 => ?_⟩
                  · obtain ⟨f1, f2, f3⟩ := over ⟨by omega, by omega⟩
                    refine ⟨fun g3 => ⟨by omega, by omega, some (d4, 0 + 1), ⟨by simp only; omega, by simp only; omega⟩, ?_⟩, fun g3 => ⟨by omega, some (d4, 0 + 1), ⟨by simp only; omega, by simp only; omega⟩, ?_⟩⟩
                    · rw [if_pos g3] at f2
                      simp only [hs1, f1, f2, f3, show ((0 + 1 : Nat) : Int) = ((0 : Nat) : Int) + 1 from by omega]
                      exact Wk.pickR [0, 1, 2, 3, 4, 5, 6, 7]
                    · rw [if_neg g3] at f2
                      simp only [hs1, f1, f2, f3, show ((0 + 1 : Nat) : Int) = ((0 : Nat) : Int) + 1 from by omega]
                      exact Wk.pickR [0, 1, 2, 3, 4, 5, 6, 7]
                  · obtain ⟨f1, f2, f3⟩ := stay (fun h => by omega)
                    refine ⟨by omega, some (d4, 0 + 1), ⟨by simp only; omega, by simp only; omega⟩, ?_⟩
                    simp only [hs1, f1, f2, f3, show ((0 + 1 : Nat) : Int) = ((0 : Nat) : Int) + 1 from by omega]
                    exact Wk.pickR [0, 1, 2, 3, 4, 5, 6, 7]
                  · obtain ⟨f1, f2, f3⟩ := stay (fun h => by omega)
                    refine ⟨by omega, some (d4, 0 + 1), ⟨by simp only; omega, by simp only; omega⟩, ?_⟩
                    simp only [hs1, f1, f2, f3, show ((0 + 1 : Nat) : Int) = ((0 : Nat) : Int) + 1 from by omega]
                    exact Wk.pickR [0, 1, 2, 3, 4, 5, 6, 7]
                · have hpk := hbk.1 hh
                  rw [Prod.mk.injEq] at hpk
                  have hst' : st' = ⟨true, st2.frm, st2.first⟩ := by rw [hpk.2, ← hh]
                  obtain ⟨f1, f2, f3⟩ := fin1 _ _ hst'
                  simp only [not_true_eq_false, not_false_eq_true, decide_true, decide_false, Bool.not_true, Bool.not_false, false_implies, true_implies, and_true, true_and, Bool.false_eq_true, Bool.true_eq_false, implies_true, Bool.not_not, Classical.not_not, go_sem, Int.reduceToNat, List.take_nil, Nat.zero_mul, Nat.reduceEqDiff, Nat.reduceAdd, Nat.reduceLT, Nat.reduceLeDiff, Nat.reduceMul, ↓reduceIte, reduceCtorEq]
                  refine ⟨by omega, some (d4, 0 + 1), ⟨by simp only; omega, by simp only; omega⟩, ?_⟩
                  simp only [hs1, f1, f2, f3, hfirst, show ((0 + 1 : Nat) : Int) = ((0 : Nat) : Int) + 1 from by omega]
                  exact Wk.pickR [0, 1, 2, 3, 4, 5, 6, 7]
      · simp only at hk
        simp only [l1_spec_RunMixed, mxB, not_true_eq_false, not_false_eq_true, decide_true, decide_false, Bool.not_true, Bool.not_false, false_implies, true_implies, and_true, true_and, Bool.false_eq_true, Bool.true_eq_false, implies_true, Bool.not_not, Classical.not_not, go_sem, Int.reduceToNat, List.take_nil, Nat.zero_mul, Nat.reduceEqDiff, Nat.reduceAdd, Nat.reduceLT, Nat.reduceLeDiff, Nat.reduceMul, ↓reduceIte, reduceCtorEq]
        refine ⟨fun hltk => ?_, fun hgek => ?_⟩
        · skip
          have hstep := @mix_step S nu de L k
          have hlk := sim_lens (L := L) (pick := mixPick S nu de L) (s0 := mix0) k
          have hiv := hinv k
          have hlp := @low_pre S nu de L ok.Lo k hiv
          have hst := hpf (mixS S nu de L k).st k (mixS S nu de L k).done
          have hel := @pick_elig S nu de L (mixS S nu de L k).st k (mixS S nu de L k).done
          have hbk := @pick_back S nu de L (mixS S nu de L k).st k (mixS S nu de L k).done
          have hpos := hiv.pos
          have hfrm := hiv.frm
          have hle : ∀ i, i < L.length → gI (mixS S nu de L k).done i ≤ (L.getD i default).E := fun i hi => (hpos i hi).2
          change (mixS S nu de L k).done.length = L.length ∧ (mixS S nu de L k).fin.length = L.length ∧ (mixS S nu de L k).run.length = k at hlk
          clear hiv
          generalize hs1 : mixS S nu de L (k + 1) = s1 at *
          generalize mixS S nu de L k = s at *
          obtain ⟨l1, l2, l3⟩ := hlk
          have hb1 : sBest S nu de L (leftM S L s.st.frm s.done) s.st.high k = if s.st.high = true then vitBest S L k s.done else lowBest S nu de L s.st.frm k s.done := by
            cases s.st.high
            · rw [sBest_low hle]; rfl
            · rw [sBest_high ok.f.2.1 hle]; rfl
          have hvb := vit_fair S L k s.done
          refine spec_l15Best_ (S := S) (L := L) (Lf := leftM S L s.st.frm s.done) (now := k) hL hf (leftM_len ..) (by omega) (Rd.own rfl) (Rd.own rfl) (Rd.owl rfl (leftM_len ..)) ?_
          rw [hb1]
          simp only [not_true_eq_false, not_false_eq_true, decide_true, decide_false, Bool.not_true, Bool.not_false, false_implies, true_implies, and_true, true_and, Bool.false_eq_true, Bool.true_eq_false, implies_true, Bool.not_not, Classical.not_not, go_sem, Int.reduceToNat, List.take_nil, Nat.zero_mul, Nat.reduceEqDiff, Nat.reduceAdd, Nat.reduceLT, Nat.reduceLeDiff, Nat.reduceMul, ↓reduceIte, reduceCtorEq]
          refine seq_join (fun _ : Unit => ⟨[(0, .sl 0 0 S.length c), (1, .sl 1 0 L.length c'), (4, .p 2 0), (5, .p 3 0), (7, .p 4 0), (8, .sl 5 0 L.length c1), (10, .b (stBack S L s.st k s.done).high), (11, .i .i64 ((k : Nat) : Int)), (12, .i .i64 (mixPick S nu de L s.st k s.done).1)], [.ro (encMT.row S), .ro (encJob.row L), .rw ty_impl_MixedRun [.sn, .sn, .i .i64 0] 3, .rw ty_impl_Fraction [.i .i64 nu, .i .i64 de] 2, .rw ty_impl_MixedRun [.sl 7 0 k c3, .sl 6 0 L.length c2, .i .i64 s.st.first] 3, .rw ty_int (encInt.row (leftM S L (stBack S L s.st k s.done).frm s.done)) c1, .rw ty_int (encInt.row s.fin) c2, .rw ty_int (encInt.row s.run) c3]⟩) (fun _ => True) ?_ ?_
          · cases hhi : s.st.high
            · have e1 : (stBack S L s.st k s.done) = s.st := by unfold stBack; rw [hhi]; simp
              have e2 : (mixPick S nu de L s.st k s.done).1 = lowBest S nu de L s.st.frm k s.done := by rw [hbk.2 (by rw [e1]; exact hhi), e1]
              rw [e1, e2]
              simp only [hhi, not_true_eq_false, not_false_eq_true, decide_true, decide_false, Bool.not_true, Bool.not_false, false_implies, true_implies, and_true, true_and, Bool.false_eq_true, Bool.true_eq_false, implies_true, Bool.not_not, Classical.not_not, go_sem, Int.reduceToNat, List.take_nil, Nat.zero_mul, Nat.reduceEqDiff, Nat.reduceAdd, Nat.reduceLT, Nat.reduceLeDiff, Nat.reduceMul, ↓reduceIte, reduceCtorEq]
              exact kJ_intro () trivial (Wk.pickR [0, 1, 2, 3, 4, 5, 6, 7])
            · by_cases hneg : vitBest S L k s.done < 0
              · have e1 : (stBack S L s.st k s.done) = ⟨false, (k : Nat), s.st.first⟩ := by unfold stBack; rw [if_pos ⟨hhi, hneg⟩]
                have e2 : (mixPick S nu de L s.st k s.done).1 = lowBest S nu de L ((k : Nat) : Int) k s.done := by rw [hbk.2 (by rw [e1]), e1]
                rw [e1, e2]
                simp only [hhi, hneg, not_true_eq_false, not_false_eq_true, decide_true, decide_false, Bool.not_true, Bool.not_false, false_implies, true_implies, and_true, true_and, Bool.false_eq_true, Bool.true_eq_false, implies_true, Bool.not_not, Classical.not_not, go_sem, Int.reduceToNat, List.take_nil, Nat.zero_mul, Nat.reduceEqDiff, Nat.reduceAdd, Nat.reduceLT, Nat.reduceLeDiff, Nat.reduceMul, ↓reduceIte, reduceCtorEq]
                refine loop_count L.length (fun i => ⟨[(0, .sl 0 0 S.length c), (1, .sl 1 0 L.length c'), (4, .p 2 0), (5, .p 3 0), (7, .p 4 0), (8, .sl 5 0 L.length c1), (10, .b false), (11, .i .i64 ((k : Nat) : Int)), (13, .i .i64 i)], [.ro (encMT.row S), .ro (encJob.row L), .rw ty_impl_MixedRun [.sn, .sn, .i .i64 0] 3, .rw ty_impl_Fraction [.i .i64 nu, .i .i64 de] 2, .rw ty_impl_MixedRun [.sl 7 0 k c3, .sl 6 0 L.length c2, .i .i64 s.st.first] 3, .rw ty_int (encInt.row (halfM S L s.st.frm ((k : Nat) : Int) s.done i)) c1, .rw ty_int (encInt.row s.fin) c2, .rw ty_int (encInt.row s.run) c3]⟩) (fun _ => True) trivial (by simp only [halfM_zero]; exact Wk.pickR [0, 1, 2, 3, 4, 5, 6, 7]) fun i hi' _ => ?_
                simp only [l0_spec_RunMixed, not_true_eq_false, not_false_eq_true, decide_true, decide_false, Bool.not_true, Bool.not_false, false_implies, true_implies, and_true, true_and, Bool.false_eq_true, Bool.true_eq_false, implies_true, Bool.not_not, Classical.not_not, go_sem, Int.reduceToNat, List.take_nil, Nat.zero_mul, Nat.reduceEqDiff, Nat.reduceAdd, Nat.reduceLT, Nat.reduceLeDiff, Nat.reduceMul, ↓reduceIte, reduceCtorEq]
                refine ⟨fun hil => ?_, fun hil => ?_⟩
                · have hTi := (hL.2.1.mem (List.getElem_mem hil)).1
                  obtain ⟨q, hq⟩ := Int.eq_ofNat_of_zero_le hTi.1
                  have hqS : q < S.length := by omega
                  have gL : L.getD i default = L[i] := by simp [List.getD_eq_getElem?_getD, hil]
                  have hv : vitJ S L i = S[q].V := by unfold vitJ; rw [gL, hq, gM_nat hqS]
                  have hsucc : halfM S L s.st.frm ((k : Nat) : Int) s.done (i + 1) = if dropJ S L ((k : Nat) : Int) i = true then (halfM S L s.st.frm ((k : Nat) : Int) s.done i).set i 0 else halfM S L s.st.frm ((k : Nat) : Int) s.done i := leftM_drop hfrm.2 hil
                  have hdr : dropJ S L ((k : Nat) : Int) i = (!S[q].V && decide (L[i].R < ((k : Nat) : Int))) := by unfold dropJ; rw [gL, hv]
                  have hlen := halfM_len S L s.st.frm ((k : Nat) : Int) s.done i
                  rw [hdr] at hsucc
                  generalize halfM S L s.st.frm ((k : Nat) : Int) s.done (i + 1) = M1 at *
                  generalize halfM S L s.st.frm ((k : Nat) : Int) s.done i = M0 at *
                  have hiM : i < M0.length := by omega
                  simp only [rdJ1 hil, rdJ0 hil, hq, Int.toNat_natCast, rdM3 hqS, splI hiM, lenI, lenJ, lenM, hlen, not_true_eq_false, not_false_eq_true, decide_true, decide_false, Bool.not_true, Bool.not_false, false_implies, true_implies, and_true, true_and, Bool.false_eq_true, Bool.true_eq_false, implies_true, Bool.not_not, Classical.not_not, go_sem, Int.reduceToNat, List.take_nil, Nat.zero_mul, Nat.reduceEqDiff, Nat.reduceAdd, Nat.reduceLT, Nat.reduceLeDiff, Nat.reduceMul, ↓reduceIte, reduceCtorEq]
                  by_cases hR : L[i].R < ((k : Nat) : Int)
                  · rw [decide_eq_true hR, Bool.and_true] at hsucc
                    cases hV : S[q].V
                    · rw [hV] at hsucc
                      rw [hsucc, if_pos (show (!false) = true from rfl)]
                      simp only [hR, not_true_eq_false, not_false_eq_true, decide_true, decide_false, Bool.not_true, Bool.not_false, false_implies, true_implies, and_true, true_and, Bool.false_eq_true, Bool.true_eq_false, implies_true, Bool.not_not, Classical.not_not, go_sem, Int.reduceToNat, List.take_nil, Nat.zero_mul, Nat.reduceEqDiff, Nat.reduceAdd, Nat.reduceLT, Nat.reduceLeDiff, Nat.reduceMul, ↓reduceIte, reduceCtorEq]
                      repeat' first | omega | exact Wk.pickR [0, 1, 2, 3, 4, 5, 6, 7] | refine ⟨?_, ?_⟩ | intro _
                    · rw [hV] at hsucc
                      rw [hsucc, if_neg (by simp)]
                      simp only [hR, not_true_eq_false, not_false_eq_true, decide_true, decide_false, Bool.not_true, Bool.not_false, false_implies, true_implies, and_true, true_and, Bool.false_eq_true, Bool.true_eq_false, implies_true, Bool.not_not, Classical.not_not, go_sem, Int.reduceToNat, List.take_nil, Nat.zero_mul, Nat.reduceEqDiff, Nat.reduceAdd, Nat.reduceLT, Nat.reduceLeDiff, Nat.reduceMul, ↓reduceIte, reduceCtorEq]
                      repeat' first | omega | exact Wk.pickR [0, 1, 2, 3, 4, 5, 6, 7] | refine ⟨?_, ?_⟩ | intro _
                  · rw [decide_eq_false hR, Bool.and_false, if_neg (by simp)] at hsucc
                    rw [hsucc]
                    simp only [hR, not_true_eq_false, not_false_eq_true, decide_true, decide_false, Bool.not_true, Bool.not_false, false_implies, true_implies, and_true, true_and, Bool.false_eq_true, Bool.true_eq_false, implies_true, Bool.not_not, Classical.not_not, go_sem, Int.reduceToNat, List.take_nil, Nat.zero_mul, Nat.reduceEqDiff, Nat.reduceAdd, Nat.reduceLT, Nat.reduceLeDiff, Nat.reduceMul, ↓reduceIte, reduceCtorEq]
                    repeat' first | omega | exact Wk.pickR [0, 1, 2, 3, 4, 5, 6, 7] | refine ⟨?_, ?_⟩ | intro _
                · have ei : i = L.length := by omega
                  subst ei
                  rw [halfM_all]
                  refine spec_l15Best_ (S := S) (L := L) (Lf := leftM S L ((k : Nat) : Int) s.done) (now := k) hL hf (leftM_len ..) (by omega) (Rd.own rfl) (Rd.own rfl) (Rd.owl rfl (leftM_len ..)) ?_
                  rw [sBest_low hle]
                  simp only [not_true_eq_false, not_false_eq_true, decide_true, decide_false, Bool.not_true, Bool.not_false, false_implies, true_implies, and_true, true_and, Bool.false_eq_true, Bool.true_eq_false, implies_true, Bool.not_not, Classical.not_not, go_sem, Int.reduceToNat, List.take_nil, Nat.zero_mul, Nat.reduceEqDiff, Nat.reduceAdd, Nat.reduceLT, Nat.reduceLeDiff, Nat.reduceMul, ↓reduceIte, reduceCtorEq]
                  exact kJ_intro () trivial (Wk.pickR [0, 1, 2, 3, 4, 5, 6, 7])
              · have e1 : (stBack S L s.st k s.done) = s.st := by unfold stBack; rw [if_neg fun h => hneg h.2]
                have e2 : (mixPick S nu de L s.st k s.done).1 = vitBest S L k s.done := by rw [hbk.1 (by rw [e1]; exact hhi)]
                rw [e1, e2]
                simp only [hhi, hneg, not_true_eq_false, not_false_eq_true, decide_true, decide_false, Bool.not_true, Bool.not_false, false_implies, true_implies, and_true, true_and, Bool.false_eq_true, Bool.true_eq_false, implies_true, Bool.not_not, Classical.not_not, go_sem, Int.reduceToNat, List.take_nil, Nat.zero_mul, Nat.reduceEqDiff, Nat.reduceAdd, Nat.reduceLT, Nat.reduceLeDiff, Nat.reduceMul, ↓reduceIte, reduceCtorEq]
                exact kJ_intro () trivial (Wk.pickR [0, 1, 2, 3, 4, 5, 6, 7])
          · rintro _ _
            have hfirst : (stBack S L s.st k s.done).first = s.st.first := by unfold stBack; split <;> rfl
            generalize hmp : mixPick S nu de L s.st k s.done = p at *
            obtain ⟨i, st'⟩ := p
            obtain ⟨q1, q2, q3, q4⟩ := hstep rfl
            simp only at hst hel hbk
            generalize (stBack S L s.st k s.done) = st2 at *
            simp only [lenI, l3, not_true_eq_false, not_false_eq_true, decide_true, decide_false, Bool.not_true, Bool.not_false, false_implies, true_implies, and_true, true_and, Bool.false_eq_true, Bool.true_eq_false, implies_true, Bool.not_not, Classical.not_not, go_sem, Int.reduceToNat, List.take_nil, Nat.zero_mul, Nat.reduceEqDiff, Nat.reduceAdd, Nat.reduceLT, Nat.reduceLeDiff, Nat.reduceMul, ↓reduceIte, reduceCtorEq]
            refine ⟨by omega, fun d4 h4 => ⟨fun hneg => ?_, fun hge => ?_⟩⟩
            · obtain ⟨q5, q6⟩ := q3 hneg
              have hst2 : st' = st2 := by
                cases hh : st2.high
                · have := hbk.2 hh
                  rw [Prod.mk.injEq] at this
                  rw [this.2, if_neg fun hov => by have := hov.1; omega]
                · have := hbk.1 hh
                  rw [Prod.mk.injEq] at this
                  exact this.2
              refine ⟨by omega, some (d4, k + 1), ⟨by simp only; omega, by simp only; omega⟩, ?_⟩
              have er : List.take k (encInt.row s.run) ++ [AV.i IntKind.i64 i] = encInt.row (s.run ++ [i]) := by rw [List.take_of_length_le (by rw [lenI]; omega), appI]
              try rw [er]
              simp only [hs1, q1, q2, q5, q6, hst2, hfirst, show ((k + 1 : Nat) : Int) = ((k : Nat) : Int) + 1 from by omega]
              exact Wk.pickR [0, 1, 2, 3, 4, 5, 6, 9]
            · rcases hst with e0 | ⟨n, e0, hnL, hrd⟩
              · omega
              subst e0
              obtain ⟨q5, q6⟩ := q4 n rfl
              obtain ⟨hdrop, hvith⟩ := hel (n := n) rfl
              have hnd : n < s.done.length := by omega
              have hnf : n < s.fin.length := by omega
              have gL : L.getD n default = L[n] := by simp [List.getD_eq_getElem?_getD, hnL]
              have gd : gI s.done n = s.done[n] := gI_at hnd
              have hTn := (hL.2.1.mem (List.getElem_mem hnL)).1
              have hEn := ok.E12 _ (List.getElem_mem hnL)
              obtain ⟨q, hq⟩ := Int.eq_ofNat_of_zero_le hTn.1
              have hqS : q < S.length := by omega
              have hv : vitJ S L n = S[q].V := by unfold vitJ; rw [gL, hq, gM_nat hqS]
              have hps := hpos n hnL
              rw [gL, gd] at hps
              unfold readyJ at hrd
              rw [decide_eq_true_eq, gL, gd] at hrd
              have hLfl := leftM_len S L st2.frm s.done
              have hnLf : n < (leftM S L st2.frm s.done).length := by omega
              have hLfn : (leftM S L st2.frm s.done)[n] = L[n].E - s.done[n] := by rw [leftM_get, if_neg (by rw [hdrop]; simp), gL, gd]
              have hgLf : gI (leftM S L st2.frm s.done) n = L[n].E - s.done[n] := by rw [gI_at hnLf, hLfn]
              have hset := leftM_set (S := S) (frm := st2.frm) hnL l1 hdrop
              rw [← q5, hgLf] at hset
              rw [gd, gL] at q6
              have hov : overJ S L s.done n ↔ (S[q].V = true ∧ s.done[n] + 1 = S[q].Lo ∧ s.done[n] + 1 < L[n].E) := by
                unfold overJ
                rw [Int.toNat_natCast, gL, gd, hq, gM_nat hqS, hv]
                exact ⟨fun h => h.2, fun h => ⟨by omega, h⟩⟩
              have hlo : st2.high = false → S[q].V = true → s.done[n] < S[q].Lo := fun h1 h2 => by
                have := hlp h1 hnL (by rw [hv]; exact h2)
                rw [gL, gd, hq, gM_nat hqS] at this
                omega
              have hlen1 : (leftM S L st2.frm s1.done).length = L.length := leftM_len ..
              generalize hL1e : leftM S L st2.frm s1.done = Lf1 at *
              generalize leftM S L st2.frm s.done = Lf at *
              have hnL1 : n < Lf1.length := by omega
              have hL1n : Lf1[n] = L[n].E - s.done[n] - 1 := by simp [hset]
              simp only [Int.toNat_natCast, rdI hnLf, hLfn, splI hnLf, ← hset, lenI, hLfl, not_true_eq_false, not_false_eq_true, decide_true, decide_false, Bool.not_true, Bool.not_false, false_implies, true_implies, and_true, true_and, Bool.false_eq_true, Bool.true_eq_false, implies_true, Bool.not_not, Classical.not_not, go_sem, Int.reduceToNat, List.take_nil, Nat.zero_mul, Nat.reduceEqDiff, Nat.reduceAdd, Nat.reduceLT, Nat.reduceLeDiff, Nat.reduceMul, ↓reduceIte, reduceCtorEq]
              iterate 5 refine ⟨by omega, ?_⟩
              have er : List.take k (encInt.row s.run) ++ [AV.i IntKind.i64 n] = encInt.row (s.run ++ [(n : Int)]) := by rw [List.take_of_length_le (by rw [lenI]; omega), appI]
              rw [er]
              refine seq_join (fun _ : Unit => ⟨[(0, .sl 0 0 S.length c), (1, .sl 1 0 L.length c'), (4, .p 2 0), (5, .p 3 0), (7, .p 4 0), (8, .sl 5 0 L.length c1), (10, .b st2.high), (11, .i .i64 ((k : Nat) : Int)), (12, .i .i64 n)], [.ro (encMT.row S), .ro (encJob.row L), .rw ty_impl_MixedRun [.sn, .sn, .i .i64 0] 3, .rw ty_impl_Fraction [.i .i64 nu, .i .i64 de] 2, .rw ty_impl_MixedRun [.sl 7 0 (k + 1) d4, .sl 6 0 L.length c2, .i .i64 s.st.first] 3, .rw ty_int (encInt.row Lf1) c1, .rw ty_int (encInt.row s1.fin) c2, .rw ty_int (encInt.row s1.run) d4]⟩) (fun _ => True) ?_ ?_
              · simp only [Int.toNat_natCast, rdI hnL1, hL1n, splI hnf, lenI, hlen1, l2, not_true_eq_false, not_false_eq_true, decide_true, decide_false, Bool.not_true, Bool.not_false, false_implies, true_implies, and_true, true_and, Bool.false_eq_true, Bool.true_eq_false, implies_true, Bool.not_not, Classical.not_not, go_sem, Int.reduceToNat, List.take_nil, Nat.zero_mul, Nat.reduceEqDiff, Nat.reduceAdd, Nat.reduceLT, Nat.reduceLeDiff, Nat.reduceMul, ↓reduceIte, reduceCtorEq]
                repeat refine ⟨by omega, ?_⟩
                refine ⟨fun he => ?_, fun he => ?_⟩
                · rw [if_pos (by omega)] at q6
                  iterate 3 refine ⟨by omega, ?_⟩
                  rw [q6, q2]
                  exact kJ_intro () trivial (Wk.pickR [0, 1, 2, 3, 4, 5, 6, 9])
                · rw [if_neg (by omega)] at q6
                  rw [q6, q2]
                  exact kJ_intro () trivial (Wk.pickR [0, 1, 2, 3, 4, 5, 6, 9])
              · rintro _ _
                simp only [Int.toNat_natCast, rdJ0 hnL, hq, winM hqS, encMf, rdI hnL1, hL1n, rdJ3 hnL, lenI, lenJ, lenM, hlen1, not_true_eq_false, not_false_eq_true, decide_true, decide_false, Bool.not_true, Bool.not_false, false_implies, true_implies, and_true, true_and, Bool.false_eq_true, Bool.true_eq_false, implies_true, Bool.not_not, Classical.not_not, go_sem, Int.reduceToNat, List.take_nil, Nat.zero_mul, Nat.reduceEqDiff, Nat.reduceAdd, Nat.reduceLT, Nat.reduceLeDiff, Nat.reduceMul, ↓reduceIte, reduceCtorEq]
                have fin1 : ∀ (hh : Bool) (fi : Int), st' = ⟨hh, st2.frm, fi⟩ → s1.st.high = hh ∧ s1.st.first = fi ∧ leftM S L s1.st.frm s1.done = Lf1 := fun hh fi h => by
                  rw [q1, h]; exact ⟨rfl, rfl, hL1e⟩
                iterate 4 refine ⟨by omega, ?_⟩
                cases hV : S[q].V
                · have hst' : st' = ⟨st2.high, st2.frm, st2.first⟩ := by
                    cases hh : st2.high
                    · have := hbk.2 hh
                      rw [Prod.mk.injEq] at this
                      obtain ⟨t1, t2⟩ := this
                      rw [← t1] at t2
                      rw [t2, if_neg fun h => by have h1 := (hov.1 h).1; rw [hV] at h1; simp at h1]
                      rw [← hh]
                    · have := hbk.1 hh
                      rw [Prod.mk.injEq] at this
                      rw [this.2, ← hh]
                  obtain ⟨f1, f2, f3⟩ := fin1 _ _ hst'
                  simp only [not_true_eq_false, not_false_eq_true, decide_true, decide_false, Bool.not_true, Bool.not_false, false_implies, true_implies, and_true, true_and, Bool.false_eq_true, Bool.true_eq_false, implies_true, Bool.not_not, Classical.not_not, go_sem, Int.reduceToNat, List.take_nil, Nat.zero_mul, Nat.reduceEqDiff, Nat.reduceAdd, Nat.reduceLT, Nat.reduceLeDiff, Nat.reduceMul, ↓reduceIte, reduceCtorEq]
                  refine ⟨by omega, some (d4, k + 1), ⟨by simp only; omega, by simp only; omega⟩, ?_⟩
                  simp only [hs1, f1, f2, f3, hfirst, show ((k + 1 : Nat) : Int) = ((k : Nat) : Int) + 1 from by omega]
                  exact Wk.pickR [0, 1, 2, 3, 4, 5, 6, 7]
                · cases hh : st2.high
                  · have hpk := hbk.2 hh
                    rw [Prod.mk.injEq] at hpk
                    rw [← hpk.1] at hpk
                    have hlo := hlo hh hV
                    have stay : ¬ (s.done[n] + 1 = S[q].Lo ∧ s.done[n] + 1 < L[n].E) → s1.st.high = false ∧ s1.st.first = st2.first ∧ leftM S L s1.st.frm s1.done = Lf1 := fun hno =>
                      fin1 false st2.first (by rw [hpk.2, if_neg fun h => hno (hov.1 h).2, ← hh])
                    have over : s.done[n] + 1 = S[q].Lo ∧ s.done[n] + 1 < L[n].E → s1.st.high = true ∧ s1.st.first = (if st2.first < 0 then ((k : Nat) : Int) + 1 else st2.first) ∧ leftM S L s1.st.frm s1.done = Lf1 := fun hyes =>
                      fin1 true _ (by rw [hpk.2, if_pos (hov.2 ⟨hV, hyes⟩)])
                    rw [hfirst] at stay over
                    simp only [not_true_eq_false, not_false_eq_true, decide_true, decide_false, Bool.not_true, Bool.not_false, false_implies, true_implies, and_true, true_and, Bool.false_eq_true, Bool.true_eq_false, implies_true, Bool.not_not, Classical.not_not, go_sem, Int.reduceToNat, List.take_nil, Nat.zero_mul, Nat.reduceEqDiff, Nat.reduceAdd, Nat.reduceLT, Nat.reduceLeDiff, Nat.reduceMul, ↓reduceIte, reduceCtorEq]
                    refine ⟨by omega, by omega, fun g1 => ⟨by omega, by omega, by omega, by omega, by omega, fun g2 => ?_, fun g2 => ?_⟩, fun g1 => ?_⟩
                    · obtain ⟨f1, f2, f3⟩ := over ⟨by omega, by omega⟩
                      refine ⟨fun g3 => ⟨by omega, by omega, some (d4, k + 1), ⟨by simp only; omega, by simp only; omega⟩, ?_⟩, fun g3 => ⟨by omega, some (d4, k + 1), ⟨by simp only; omega, by simp only; omega⟩, ?_⟩⟩
                      · rw [if_pos g3] at f2
                        simp only [hs1, f1, f2, f3, show ((k + 1 : Nat) : Int) = ((k : Nat) : Int) + 1 from by omega]
                        exact Wk.pickR [0, 1, 2, 3, 4, 5, 6, 7]
                      · rw [if_neg g3] at f2
                        simp only [hs1, f1, f2, f3, show ((k + 1 : Nat) : Int) = ((k : Nat) : Int) + 1 from by omega]
                        exact Wk.pickR [0, 1, 2, 3, 4, 5, 6, 7]
                    · obtain ⟨f1, f2, f3⟩ := stay (fun h => by omega)
                      refine ⟨by omega, some (d4, k + 1), ⟨by simp only; omega, by simp only; omega⟩, ?_⟩
                      simp only [hs1, f1, f2, f3, show ((k + 1 : Nat) : Int) = ((k : Nat) : Int) + 1 from by omega]
                      exact Wk.pickR [0, 1, 2, 3, 4, 5, 6, 7]
                    · obtain ⟨f1, f2, f3⟩ := stay (fun h => by omega)
                      refine ⟨by omega, some (d4, k + 1), ⟨by simp only; omega, by simp only; omega⟩, ?_⟩
                      simp only [hs1, f1, f2, f3, show ((k + 1 : Nat) : Int) = ((k : Nat) : Int) + 1 from by omega]
                      exact Wk.pickR [0, 1, 2, 3, 4, 5, 6, 7]
                  · have hpk := hbk.1 hh
                    rw [Prod.mk.injEq] at hpk
                    have hst' : st' = ⟨true, st2.frm, st2.first⟩ := by rw [hpk.2, ← hh]
                    obtain ⟨f1, f2, f3⟩ := fin1 _ _ hst'
                    simp only [not_true_eq_false, not_false_eq_true, decide_true, decide_false, Bool.not_true, Bool.not_false, false_implies, true_implies, and_true, true_and, Bool.false_eq_true, Bool.true_eq_false, implies_true, Bool.not_not, Classical.not_not, go_sem, Int.reduceToNat, List.take_nil, Nat.zero_mul, Nat.reduceEqDiff, Nat.reduceAdd, Nat.reduceLT, Nat.reduceLeDiff, Nat.reduceMul, ↓reduceIte, reduceCtorEq]
                    refine ⟨by omega, some (d4, k + 1), ⟨by simp only; omega, by simp only; omega⟩, ?_⟩
                    simp only [hs1, f1, f2, f3, hfirst, show ((k + 1 : Nat) : Int) = ((k : Nat) : Int) + 1 from by omega]
                    exact Wk.pickR [0, 1, 2, 3, 4, 5, 6, 7]
        · have ek : k = 120 := by omega
          subst ek
          have hl1 := sim_lens (L := L) (pick := mixPick S nu de L) (s0 := mix0) 120
          have hfl : (mixFin S nu de L).length = L.length := hl1.2.1
          have hne' : mixFin S nu de L ≠ [] := fun h => by rw [h] at hfl; simp at hfl; omega
          rw [← hfl]
          exact Fin.pickR [0, 1, 7, 6] (.agg [.sl 2 0 120 c3, .sl 3 0 (mixFin S nu de L).length c2, .i .i64 (mixS S nu de L 120).st.first]) [.ro (encMT.row S), .ro (encJob.row L), .rw ty_int (encInt.row (mixS S nu de L 120).run) c3, .rw ty_int (encInt.row (mixS S nu de L 120).fin) c2] ⟨_, rfl, .inr ⟨⟨hsc, hL⟩, c3, c2, .inl ⟨hne', rfl, rfl⟩⟩⟩
end Go.Proofs.Ytmphblbpofnpaaa
