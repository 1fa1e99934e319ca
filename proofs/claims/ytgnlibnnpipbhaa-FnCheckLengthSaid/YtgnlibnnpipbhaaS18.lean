/- Contracts: checking a schedule, of the reference. -/
import Derived.Test.YtgnlibnnpipbhaaS17
import Derived.Test.YtgnlibnnpipbhaaS8
namespace Go.Proofs.Ytgnlibnnpipbhaa
open Go.Abs Go.Ds
set_option linter.unusedSimpArgs false
set_option linter.unusedVariables false
set_option maxRecDepth 20000
set_option maxHeartbeats 1000000

/-- The code of a tick before its end. -/
def tickCode (L : List Job) (now : Nat) (done : List Int) (e : Int) : Int :=
  if e ≠ -1 ∧ ¬ ((0 ≤ e ∧ e ≤ (L.length : Int) - 1) ∧ readyJ L done now e.toNat = true) then 3
  else if e = -1 ∧ 0 ≤ edfPick L now done then 4
  else if 0 ≤ e ∧ (L.getD (edfPick L now done).toNat default).D < (L.getD e.toNat default).D then 5 else 0
theorem chk_tick (L : List Job) (now : Nat) (done : List Int) (e : Int) : chkCode L now done e = if tickCode L now done e = 0 then (if lateNow L now (tickDone done e) = true then 6 else 0) else tickCode L now done e := by
  unfold chkCode tickCode
  split
  · rfl
  · split
    · rfl
    · split
      · rfl
      · rfl

theorem spec_l9Tick0 (L : List Job) (done : List Int) (now : Nat) (e : Int) (hl : L.length ≤ 1000) (hnow : now < 120) (hd : done.length = L.length) (hle : ∀ i, i < L.length → gI done i ≤ (L.getD i default).E) (c c' : Nat) :
    CallWp Try.prog n_spec_l9Tick [.sl 0 0 L.length c, .sl 1 0 (leftOf L done).length c', .i .i64 e, .i .i64 now] [.ro (encJob.row L), .ro (encInt.row (leftOf L done))] (fun x σ => x = .i .i64 (tickCode L now done e) ∧ σ = [.ro (encJob.row L), .ro (encInt.row (leftOf L done))]) := by
  have hlo := leftOf_length L done
  refine call_spec_l9Tick (by simp) ?_
  simp only [c_spec_l9Tick, not_true_eq_false, not_false_eq_true, decide_true, decide_false, Bool.not_true, Bool.not_false, false_implies, true_implies, and_true, true_and, Bool.false_eq_true, Bool.true_eq_false, implies_true, Bool.not_not, Classical.not_not, go_sem, Int.reduceToNat, List.take_nil, Nat.zero_mul, Nat.reduceEqDiff, Nat.reduceAdd, Nat.reduceLT, Nat.reduceLeDiff, Nat.reduceMul, ↓reduceIte, reduceCtorEq]
  refine ⟨by omega, spec_l1In_ _ _ _ ?_⟩
  have hbr := bestF_spec (readyJ L done now) (fun i => (L.getD i default).D) L.length
  change (edfPick L now done = -1 ∧ _) ∨ (∃ k : Nat, edfPick L now done = k ∧ _) at hbr
  have best : ∀ {σ : List AB} {u v w : AV}, Rd encJob σ u L → Rd encInt σ v (leftOf L done) → Rd encInt σ w (L.map Job.D) → ∀ {K : AV → List AB → Prop}, K (.i .i64 (edfPick L now done)) σ → CallWp Try.prog n_spec_l3Best [u, v, w, .i .i64 now] σ K := fun a1 a2 a3 K hk => by
    refine spec_l3Best_ (L := L) (ks := L.map Job.D) (now := now) (by omega) (by omega) hlo (by simp) a1 a2 a3 ?_
    rw [keyPick_left, edf_key]; exact hk
  simp only [not_true_eq_false, not_false_eq_true, decide_true, decide_false, Bool.not_true, Bool.not_false, false_implies, true_implies, and_true, true_and, Bool.false_eq_true, Bool.true_eq_false, implies_true, Bool.not_not, Classical.not_not, go_sem, Int.reduceToNat, List.take_nil, Nat.zero_mul, Nat.reduceEqDiff, Nat.reduceAdd, Nat.reduceLT, Nat.reduceLeDiff, Nat.reduceMul, ↓reduceIte, reduceCtorEq]
  refine ⟨fun hin => ?_, fun hin => ?_⟩
  · by_cases h1 : e = -1
    · subst h1
      have h01 : ¬ (0 : Int) ≤ -1 := by decide
      have h02 : (-1 : Int) < 0 := by decide
      have hcd : tickCode L now done (-1) = if 0 ≤ edfPick L now done then 4 else 0 := by
        unfold tickCode
        rw [if_neg (fun h => h.1 rfl)]
        by_cases h4 : 0 ≤ edfPick L now done
        · rw [if_pos ⟨rfl, h4⟩, if_pos h4]
        · rw [if_neg (fun h => h4 h.2), if_neg (fun h => h01 h.1), if_neg h4]
      simp only [h01, h02, not_true_eq_false, not_false_eq_true, decide_true, decide_false, Bool.not_true, Bool.not_false, false_implies, true_implies, and_true, true_and, Bool.false_eq_true, Bool.true_eq_false, implies_true, Bool.not_not, Classical.not_not, go_sem, Int.reduceToNat, List.take_nil, Nat.zero_mul, Nat.reduceEqDiff, Nat.reduceAdd, Nat.reduceLT, Nat.reduceLeDiff, Nat.reduceMul, ↓reduceIte, reduceCtorEq]
      refine spec_l3Deadlines_ (L := L) (by omega) (Rd.own rfl) fun capK => ?_
      simp only [h01, h02, not_true_eq_false, not_false_eq_true, decide_true, decide_false, Bool.not_true, Bool.not_false, false_implies, true_implies, and_true, true_and, Bool.false_eq_true, Bool.true_eq_false, implies_true, Bool.not_not, Classical.not_not, go_sem, Int.reduceToNat, List.take_nil, Nat.zero_mul, Nat.reduceEqDiff, Nat.reduceAdd, Nat.reduceLT, Nat.reduceLeDiff, Nat.reduceMul, ↓reduceIte, reduceCtorEq]
      refine best (Rd.own rfl) (Rd.own rfl) (Rd.len' rfl (by simp)) ?_
      simp only [h01, h02, not_true_eq_false, not_false_eq_true, decide_true, decide_false, Bool.not_true, Bool.not_false, false_implies, true_implies, and_true, true_and, Bool.false_eq_true, Bool.true_eq_false, implies_true, Bool.not_not, Classical.not_not, go_sem, Int.reduceToNat, List.take_nil, Nat.zero_mul, Nat.reduceEqDiff, Nat.reduceAdd, Nat.reduceLT, Nat.reduceLeDiff, Nat.reduceMul, ↓reduceIte, reduceCtorEq]
      refine ⟨fun h4 => ?_, fun h4 => ?_⟩
      · rw [if_pos h4] at hcd
        exact Fin.pick [0, 1] (.i .i64 4) [.ro (encJob.row L), .ro (encInt.row (leftOf L done))] ⟨by rw [hcd], rfl⟩
      · rw [if_neg h4] at hcd
        exact Fin.pick [0, 1] (.i .i64 0) [.ro (encJob.row L), .ro (encInt.row (leftOf L done))] ⟨by rw [hcd], rfl⟩
    · obtain ⟨n, rfl⟩ := Int.eq_ofNat_of_zero_le (show 0 ≤ e by omega)
      have hn : n < L.length := by omega
      have hnl : n < (leftOf L done).length := by omega
      have hv : (leftOf L done)[n] = (L.getD n default).E - gI done n := leftOf_get _ _ _ _
      have hle2 := hle n hn
      have gL : L.getD n default = L[n] := by simp [List.getD_eq_getElem?_getD, hn]
      have hrd : readyJ L done now n = decide (L[n].R ≤ now ∧ gI done n < L[n].E) := by unfold readyJ; rw [gL]
      rw [gL] at hv hle2
      have hbad : ¬ (L[n].R ≤ now ∧ gI done n < L[n].E) → tickCode L now done n = 3 := fun hno => if_pos ⟨by omega, fun h => by
        have h2 := h.2
        rw [Int.toNat_natCast, hrd, decide_eq_true_iff] at h2
        exact hno h2⟩
      have hgood : L[n].R ≤ now ∧ gI done n < L[n].E → ∃ k : Nat, edfPick L now done = k ∧ k < L.length ∧ tickCode L now done n = if (L.getD k default).D < L[n].D then 5 else 0 := fun hg => by
        have hr : readyJ L done now n = true := by rw [hrd]; exact decide_eq_true hg
        rcases hbr with ⟨_, hno⟩ | ⟨k, hkb, hkl, _⟩
        · rw [hno n hn] at hr; cases hr
        · refine ⟨k, hkb, hkl, ?_⟩
          unfold tickCode
          rw [if_neg (fun h => h.2 ⟨by omega, by rw [Int.toNat_natCast]; exact hr⟩), if_neg (fun h => by have := h.1; omega), hkb, Int.toNat_natCast, Int.toNat_natCast, gL]
          by_cases h5 : (L.getD k default).D < L[n].D
          · rw [if_pos ⟨by omega, h5⟩, if_pos h5]
          · rw [if_neg (fun h => h5 h.2), if_neg h5]
      simp only [Int.toNat_natCast, rdJ1 hn, rdI hnl, lenJ, lenI, hlo, not_true_eq_false, not_false_eq_true, decide_true, decide_false, Bool.not_true, Bool.not_false, false_implies, true_implies, and_true, true_and, Bool.false_eq_true, Bool.true_eq_false, implies_true, Bool.not_not, Classical.not_not, go_sem, Int.reduceToNat, List.take_nil, Nat.zero_mul, Nat.reduceEqDiff, Nat.reduceAdd, Nat.reduceLT, Nat.reduceLeDiff, Nat.reduceMul, ↓reduceIte, reduceCtorEq]
      refine ⟨hn, by omega, fun hrel => ⟨hn, hn, fun h0 => ?_, fun h0 => ?_⟩, fun hrel => ?_⟩
      · exact Fin.plain ⟨by rw [hbad (fun h => by omega)], rfl⟩
      · obtain ⟨k, hkb, hkl, hcd⟩ := hgood ⟨by omega, by omega⟩
        have gK : L.getD k default = L[k] := by simp [List.getD_eq_getElem?_getD, hkl]
        rw [gK] at hcd
        refine spec_l3Deadlines_ (L := L) (by omega) (Rd.own rfl) fun capK => ?_
        simp only [not_true_eq_false, not_false_eq_true, decide_true, decide_false, Bool.not_true, Bool.not_false, false_implies, true_implies, and_true, true_and, Bool.false_eq_true, Bool.true_eq_false, implies_true, Bool.not_not, Classical.not_not, go_sem, Int.reduceToNat, List.take_nil, Nat.zero_mul, Nat.reduceEqDiff, Nat.reduceAdd, Nat.reduceLT, Nat.reduceLeDiff, Nat.reduceMul, ↓reduceIte, reduceCtorEq]
        refine best (Rd.own rfl) (Rd.len' rfl hlo) (Rd.len' rfl (by simp)) ?_
        have hnn : ¬ ((n : Nat) : Int) < 0 := by omega
        simp only [hkb, hnn, Int.toNat_natCast, rdJ2 hkl, rdJ2 hn, lenJ, not_true_eq_false, not_false_eq_true, decide_true, decide_false, Bool.not_true, Bool.not_false, false_implies, true_implies, and_true, true_and, Bool.false_eq_true, Bool.true_eq_false, implies_true, Bool.not_not, Classical.not_not, go_sem, Int.reduceToNat, List.take_nil, Nat.zero_mul, Nat.reduceEqDiff, Nat.reduceAdd, Nat.reduceLT, Nat.reduceLeDiff, Nat.reduceMul, ↓reduceIte, reduceCtorEq]
        refine ⟨hkl, by omega, hn, by omega, fun h5 => ?_, fun h5 => ?_⟩
        · rw [if_pos h5] at hcd
          exact Fin.pick [0, 1] (.i .i64 5) [.ro (encJob.row L), .ro (encInt.row (leftOf L done))] ⟨by rw [hcd], rfl⟩
        · rw [if_neg h5] at hcd
          exact Fin.pick [0, 1] (.i .i64 0) [.ro (encJob.row L), .ro (encInt.row (leftOf L done))] ⟨by rw [hcd], rfl⟩
      · exact Fin.plain ⟨by rw [hbad (fun h => by omega)], rfl⟩
  · have hc : tickCode L now done e = 3 := if_pos ⟨by omega, fun h => by omega⟩
    exact Fin.plain ⟨by rw [hc], rfl⟩
theorem spec_l9Tick_ {L : List Job} {done : List Int} {now : Nat} {e : Int} (hl : L.length ≤ 1000) (hnow : now < 120) (hd : done.length = L.length) (hle : ∀ i, i < L.length → gI done i ≤ (L.getD i default).E) {v u : AV} {σ : List AB} (h1 : Rd encJob σ v L) (h2 : Rd encInt σ u (leftOf L done))
    {K : AV → List AB → Prop} (hk : K (.i .i64 (tickCode L now done e)) σ) : CallWp Try.prog n_spec_l9Tick [v, u, .i .i64 e, .i .i64 now] σ K :=
  call_rds _ (rds_cons h1.r (rds1 h2.r)) (fun c => [.sl 0 0 L.length (c 0), .sl 1 0 (leftOf L done).length (c 1), .i .i64 e, .i .i64 now]) (fun c => spec_l9Tick0 L done now e hl hnow hd hle (c 0) (c 1)) (fun ν c h => ⟨h.1, h.2.1, .inl rfl, .inl rfl, trivial⟩) (fun _ => rfl) rfl hk

/-- As long as nothing was found, no job has run too long. -/
theorem chkDone_le {L : List Job} {run : List Int} (hE : ∀ j ∈ L, 1 ≤ j.E) : ∀ k, (∀ u, u < k → codeAt L run u = 0) → ∀ i, i < L.length → gI (chkDone L run k) i ≤ (L.getD i default).E
  | 0, _, i, hi => by
    rw [show gI (chkDone L run 0) i = 0 from gI_rep _ _ _ hi]
    have := hE (L.getD i default) (by
      rw [show L.getD i default = L[i] from by simp [List.getD_eq_getElem?_getD, hi]]
      exact List.getElem_mem hi)
    omega
  | k + 1, h, i, hi => by
    have ih := chkDone_le hE k (fun u hu => h u (by omega))
    have hc := h k (by omega)
    have hlen := chkDone_length L run k
    have h1 := ih i hi
    unfold codeAt chkCode at hc
    simp only [chkDone]
    generalize gI run k = e at hc ⊢
    split at hc
    · cases hc
    · rename_i hok
      by_cases he : e = -1
      · subst he
        unfold tickDone
        rw [if_neg (by omega)]; exact h1
      · have hok2 : (0 ≤ e ∧ e ≤ (L.length : Int) - 1) ∧ readyJ L (chkDone L run k) k e.toNat = true := by
          apply Classical.byContradiction
          intro hno; exact hok ⟨he, hno⟩
        obtain ⟨n, rfl⟩ := Int.eq_ofNat_of_zero_le hok2.1.1
        have hr := hok2.2
        simp only [Int.toNat_natCast, readyJ, decide_eq_true_eq] at hr
        unfold tickDone
        rw [if_pos (by omega), Int.toNat_natCast, gI_set (by omega)]
        by_cases hni : n = i
        · subst hni; rw [if_pos rfl]; omega
        · rw [if_neg hni]; exact h1

theorem spec_CheckSchedule0 (S : List Task) (L : List Job) (R : List Int) (hs : S.length ≤ 1048576) (hl : L.length ≤ 1048576) (hr : R.length ≤ 1048576) (c c' c3 : Nat) : CallWp Try.prog n_spec_CheckSchedule [.sl 0 0 S.length c, .sl 1 0 L.length c', .sl 2 0 R.length c3] [.ro (encTask.row S), .ro (encJob.row L), .ro (encInt.row R)]
    (fun x σ' => ∃ τ, σ' = [.ro (encTask.row S), .ro (encJob.row L), .ro (encInt.row R)] ++ τ ∧ ChkG S L R x τ) := by
  refine call_spec_CheckSchedule (by simp) ?_
  simp only [c_spec_CheckSchedule, go_sem, Int.reduceToNat, List.take_nil, Nat.zero_mul, Nat.reduceEqDiff, Nat.reduceAdd, Nat.reduceLT, Nat.reduceLeDiff, Nat.reduceMul, ↓reduceIte, reduceCtorEq]
  refine spec_JobsLegal_ (S := S) (L := L) (by omega) (by omega) (Rd.own rfl) (Rd.own rfl) ?_
  simp only [not_true_eq_false, not_false_eq_true, decide_true, decide_false, Bool.not_true, Bool.not_false, false_implies, true_implies, and_true, true_and, Bool.false_eq_true, Bool.true_eq_false, implies_true, Bool.not_not, Classical.not_not, go_sem, Int.reduceToNat, List.take_nil, Nat.zero_mul, Nat.reduceEqDiff, Nat.reduceAdd, Nat.reduceLT, Nat.reduceLeDiff, Nat.reduceMul, ↓reduceIte, reduceCtorEq]
  refine ⟨fun h1 => ?_, fun h1 => ?_⟩
  · exact Fin.plain ⟨[], rfl, rfl, _, _, .inl ⟨h1, rfl, rfl⟩, rfl⟩
  refine ⟨fun h2 => ?_, fun h2 => ?_⟩
  · exact Fin.plain ⟨[], rfl, rfl, _, _, .inr (.inl ⟨h1, by omega, rfl, rfl⟩), rfl⟩
  have h60 := h1.2.1.1
  have hR : R.length = 120 := by omega
  have hE := jl_E h1
  refine loop_intro (fun i : Nat × Nat => ⟨[(1, .sl 1 0 L.length c'), (2, .sl 2 0 R.length c3), (8, .sl 3 0 i.1 i.2), (9, .i .i64 i.1)], [.ro (encTask.row S), .ro (encJob.row L), .ro (encInt.row R), .rw ty_int (encInt.row ((L.take i.1).map Job.E)) i.2]⟩) (fun i => i.1 ≤ L.length) (fun i => L.length - i.1) (0, 0) (Nat.zero_le _) (by show Wk 3 92 _ ⟨[(1, .sl 1 0 L.length c'), (2, .sl 2 0 R.length c3), (8, .sl 3 0 0 0), (9, .i .i64 0)], [.ro (encTask.row S), .ro (encJob.row L), .ro (encInt.row R), .rw ty_int [] 0]⟩; exact Wk.pick [0, 1, 2, 3]) ?_
  rintro ⟨k, capk⟩ hk
  simp only at hk
  simp only [l2_spec_CheckSchedule, lenJ, not_true_eq_false, not_false_eq_true, decide_true, decide_false, Bool.not_true, Bool.not_false, false_implies, true_implies, and_true, true_and, Bool.false_eq_true, Bool.true_eq_false, implies_true, Bool.not_not, Classical.not_not, go_sem, Int.reduceToNat, List.take_nil, Nat.zero_mul, Nat.reduceEqDiff, Nat.reduceAdd, Nat.reduceLT, Nat.reduceLeDiff, Nat.reduceMul, ↓reduceIte, reduceCtorEq]
  refine ⟨fun hlt => ?_, fun hge => ?_⟩
  · simp only [lenJ, rdJ3 hlt, lenI, List.length_map, List.length_take, Nat.min_eq_left hk, not_true_eq_false, not_false_eq_true, decide_true, decide_false, Bool.not_true, Bool.not_false, false_implies, true_implies, and_true, true_and, Bool.false_eq_true, Bool.true_eq_false, implies_true, Bool.not_not, Classical.not_not, go_sem, Int.reduceToNat, List.take_nil, Nat.zero_mul, Nat.reduceEqDiff, Nat.reduceAdd, Nat.reduceLT, Nat.reduceLeDiff, Nat.reduceMul, ↓reduceIte, reduceCtorEq]
    have e1 : List.take k (encInt.row (List.map Job.E (List.take k L))) ++ [AV.i IntKind.i64 L[k].E] = encInt.row (List.map Job.E (List.take (k + 1) L)) := by
      rw [List.take_of_length_le (by simp [lenI]; omega), List.take_succ_eq_append_getElem hlt, List.map_append, appI]; rfl
    refine ⟨hlt, by omega, by omega, fun cap2 hcap => ⟨by omega, (k + 1, cap2), ⟨by simp only; omega, by simp only; omega⟩, ?_⟩⟩
    simp only [e1]
    exact Wk.pick [0, 1, 2, 5]
  have ek : k = L.length := by omega
  subst ek
  rw [List.take_length, ← leftOf_zero]
  refine loop_count 120 (fun k => ⟨[(1, .sl 1 0 L.length c'), (2, .sl 2 0 R.length c3), (8, .sl 3 0 L.length capk), (10, .i .i64 k)], [.ro (encTask.row S), .ro (encJob.row L), .ro (encInt.row R), .rw ty_int (encInt.row (leftOf L (chkDone L R k))) capk]⟩)
    (fun k => ∀ u, u < k → codeAt L R u = 0) (fun u hu => by omega) (Wk.pick [0, 1, 2, 3]) fun k hk2 hJ => ?_
  simp only [l1_spec_CheckSchedule, not_true_eq_false, not_false_eq_true, decide_true, decide_false, Bool.not_true, Bool.not_false, false_implies, true_implies, and_true, true_and, Bool.false_eq_true, Bool.true_eq_false, implies_true, Bool.not_not, Classical.not_not, go_sem, Int.reduceToNat, List.take_nil, Nat.zero_mul, Nat.reduceEqDiff, Nat.reduceAdd, Nat.reduceLT, Nat.reduceLeDiff, Nat.reduceMul, ↓reduceIte, reduceCtorEq]
  refine ⟨fun hlt => ?_, fun hge => ?_⟩
  · have hkR : k < R.length := by omega
    have hlen := chkDone_length L R k
    have hlo := leftOf_length L (chkDone L R k)
    have hle := chkDone_le hE k hJ
    simp only [rdI hkR, lenI, not_true_eq_false, not_false_eq_true, decide_true, decide_false, Bool.not_true, Bool.not_false, false_implies, true_implies, and_true, true_and, Bool.false_eq_true, Bool.true_eq_false, implies_true, Bool.not_not, Classical.not_not, go_sem, Int.reduceToNat, List.take_nil, Nat.zero_mul, Nat.reduceEqDiff, Nat.reduceAdd, Nat.reduceLT, Nat.reduceLeDiff, Nat.reduceMul, ↓reduceIte, reduceCtorEq]
    refine ⟨hkR, hkR, spec_l9Tick_ (by omega) (by omega) hlen hle (Rd.own rfl) (Rd.len' rfl hlo) ?_⟩
    have hg : gI R k = R[k] := gI_row' hkR
    have hck : codeAt L R k = chkCode L k (chkDone L R k) R[k] := by unfold codeAt; rw [hg]
    have hdk : chkDone L R (k + 1) = tickDone (chkDone L R k) R[k] := by rw [← hg]; rfl
    rw [chk_tick] at hck
    have hb := chkDone_bound L R k
    have hres : codeAt L R k ≠ 0 → ChkR S L R (codeAt L R k) k := fun h => .inr (.inr ⟨h1, hR, .inr ⟨k, by omega, rfl, h, rfl, hJ⟩⟩)
    have hJ1 : codeAt L R k = 0 → ∀ u, u < k + 1 → codeAt L R u = 0 := fun h u hu => by
      rcases Nat.lt_succ_iff_lt_or_eq.1 hu with h3 | h3
      · exact hJ u h3
      · rw [h3]; exact h
    have htv : tickCode L k (chkDone L R k) R[k] = 0 → R[k] = -1 ∨ ∃ n : Nat, R[k] = n ∧ n < L.length := fun h => by
      unfold tickCode at h
      split at h
      · cases h
      · rename_i hok
        by_cases he : R[k] = -1
        · exact .inl he
        · have h2 : 0 ≤ R[k] ∧ R[k] ≤ (L.length : Int) - 1 := by
            apply Classical.byContradiction
            intro hno; exact hok ⟨he, fun hh => hno hh.1⟩
          obtain ⟨n, hn⟩ := Int.eq_ofNat_of_zero_le h2.1
          exact .inr ⟨n, hn, by omega⟩
    generalize tickCode L k (chkDone L R k) R[k] = tc at *
    simp only [not_true_eq_false, not_false_eq_true, decide_true, decide_false, Bool.not_true, Bool.not_false, false_implies, true_implies, and_true, true_and, Bool.false_eq_true, Bool.true_eq_false, implies_true, Bool.not_not, Classical.not_not, go_sem, Int.reduceToNat, List.take_nil, Nat.zero_mul, Nat.reduceEqDiff, Nat.reduceAdd, Nat.reduceLT, Nat.reduceLeDiff, Nat.reduceMul, ↓reduceIte, reduceCtorEq]
    refine ⟨fun h => ?_, fun h => ?_⟩
    · rw [if_neg h] at hck
      have := hres (by rw [hck]; exact h)
      rw [hck] at this
      exact Fin.pick [0, 1, 2] (.tup [.i .i64 tc, .i .i64 k]) [.ro (encTask.row S), .ro (encJob.row L), .ro (encInt.row R)] ⟨[], rfl, rfl, tc, k, this, rfl⟩
    · rw [if_pos (by omega)] at hck
      rw [← hdk] at hck
      refine seq_join (fun _ : Unit => ⟨[(1, .sl 1 0 L.length c'), (2, .sl 2 0 R.length c3), (8, .sl 3 0 L.length capk), (10, .i .i64 k)], [.ro (encTask.row S), .ro (encJob.row L), .ro (encInt.row R), .rw ty_int (encInt.row (leftOf L (chkDone L R (k + 1)))) capk]⟩) (fun _ => True) ?_ fun _ _ => ?_
      · simp only [rdI hkR, lenI, not_true_eq_false, not_false_eq_true, decide_true, decide_false, Bool.not_true, Bool.not_false, false_implies, true_implies, and_true, true_and, Bool.false_eq_true, Bool.true_eq_false, implies_true, Bool.not_not, Classical.not_not, go_sem, Int.reduceToNat, List.take_nil, Nat.zero_mul, Nat.reduceEqDiff, Nat.reduceAdd, Nat.reduceLT, Nat.reduceLeDiff, Nat.reduceMul, ↓reduceIte, reduceCtorEq]
        rcases htv (by omega) with e | ⟨n, e, hn⟩
        · have et : chkDone L R (k + 1) = chkDone L R k := by rw [hdk, e]; exact if_neg (by decide)
          simp only [e, et, not_true_eq_false, not_false_eq_true, decide_true, decide_false, Bool.not_true, Bool.not_false, false_implies, true_implies, and_true, true_and, Bool.false_eq_true, Bool.true_eq_false, implies_true, Bool.not_not, Classical.not_not, go_sem, Int.reduceToNat, List.take_nil, Nat.zero_mul, Nat.reduceEqDiff, Nat.reduceAdd, Nat.reduceLT, Nat.reduceLeDiff, Nat.reduceMul, ↓reduceIte, reduceCtorEq]
          exact ⟨hkR, hkR, fun h => absurd h (by decide), fun _ => kJ_intro () trivial (Wk.keep (by simp [look_cons]))⟩
        · have hnl : n < (leftOf L (chkDone L R k)).length := by omega
          have gl : gI (leftOf L (chkDone L R k)) n = (leftOf L (chkDone L R k))[n] := gI_row' hnl
          have et : leftOf L (chkDone L R (k + 1)) = (leftOf L (chkDone L R k)).set n ((leftOf L (chkDone L R k))[n] - 1) := by
            rw [hdk, e]
            unfold tickDone
            rw [if_pos (by omega), Int.toNat_natCast, leftOf_set _ _ _ hn hlen, gl]
          have hv : (leftOf L (chkDone L R k))[n] = (L.getD n default).E - gI (chkDone L R k) n := leftOf_get _ _ _ _
          have hbn := hb n hn
          have hEn := hle n hn
          have hE8 : (L.getD n default).E ≤ 8 := by
            have hm : L.getD n default ∈ L := by
              rw [show L.getD n default = L[n] from by simp [List.getD_eq_getElem?_getD, hn]]
              exact List.getElem_mem hn
            have h2 := h1.2.1.mem hm
            have t1 := gT_ok h1.1 h2.1.1 h2.1.2
            unfold Task.ok at t1
            have h3 : costOf S (L.getD n default).T = (gT S (L.getD n default).T).C := rfl
            omega
          simp only [e, et, Int.toNat_natCast, rdI hnl, splI hnl, lenI, hlo, not_true_eq_false, not_false_eq_true, decide_true, decide_false, Bool.not_true, Bool.not_false, false_implies, true_implies, and_true, true_and, Bool.false_eq_true, Bool.true_eq_false, implies_true, Bool.not_not, Classical.not_not, go_sem, Int.reduceToNat, List.take_nil, Nat.zero_mul, Nat.reduceEqDiff, Nat.reduceAdd, Nat.reduceLT, Nat.reduceLeDiff, Nat.reduceMul, ↓reduceIte, reduceCtorEq]
          repeat' first
            | omega
            | exact kJ_intro () trivial (Wk.keep (by simp [look_cons]))
            | refine ⟨?_, ?_⟩
      · have hlen2 := chkDone_length L R (k + 1)
        have hlo2 := leftOf_length L (chkDone L R (k + 1))
        simp only [not_true_eq_false, not_false_eq_true, decide_true, decide_false, Bool.not_true, Bool.not_false, false_implies, true_implies, and_true, true_and, Bool.false_eq_true, Bool.true_eq_false, implies_true, Bool.not_not, Classical.not_not, go_sem, Int.reduceToNat, List.take_nil, Nat.zero_mul, Nat.reduceEqDiff, Nat.reduceAdd, Nat.reduceLT, Nat.reduceLeDiff, Nat.reduceMul, ↓reduceIte, reduceCtorEq]
        refine loop_count L.length (fun i => ⟨[(1, .sl 1 0 L.length c'), (2, .sl 2 0 R.length c3), (8, .sl 3 0 L.length capk), (10, .i .i64 k), (12, .i .i64 i)], [.ro (encTask.row S), .ro (encJob.row L), .ro (encInt.row R), .rw ty_int (encInt.row (leftOf L (chkDone L R (k + 1)))) capk]⟩)
          (fun i => ∀ m, m < i → ¬ ((L.getD m default).D = (k : Int) + 1 ∧ gI (chkDone L R (k + 1)) m < (L.getD m default).E)) (fun m hm => by omega) (Wk.keep (by simp [look_cons])) fun i hi hJ2 => ?_
        simp only [l0_spec_CheckSchedule, lenJ, not_true_eq_false, not_false_eq_true, decide_true, decide_false, Bool.not_true, Bool.not_false, false_implies, true_implies, and_true, true_and, Bool.false_eq_true, Bool.true_eq_false, implies_true, Bool.not_not, Classical.not_not, go_sem, Int.reduceToNat, List.take_nil, Nat.zero_mul, Nat.reduceEqDiff, Nat.reduceAdd, Nat.reduceLT, Nat.reduceLeDiff, Nat.reduceMul, ↓reduceIte, reduceCtorEq]
        refine ⟨fun hil => ?_, fun hige => ?_⟩
        · have hil2 : i < (leftOf L (chkDone L R (k + 1))).length := by omega
          have hv : (leftOf L (chkDone L R (k + 1)))[i] = (L.getD i default).E - gI (chkDone L R (k + 1)) i := leftOf_get _ _ _ _
          have gL : L.getD i default = L[i] := by simp [List.getD_eq_getElem?_getD, hil]
          rw [gL] at hv
          have hno : ¬ (L[i].D = (k : Int) + 1 ∧ gI (chkDone L R (k + 1)) i < L[i].E) → ∀ m, m < i + 1 → ¬ ((L.getD m default).D = (k : Int) + 1 ∧ gI (chkDone L R (k + 1)) m < (L.getD m default).E) := fun hn m hm => by
            rcases Nat.lt_succ_iff_lt_or_eq.1 hm with h3 | h3
            · exact hJ2 m h3
            · subst h3; rw [gL]; exact hn
          simp only [rdJ2 hil, rdI hil2, lenJ, lenI, hlo2, not_true_eq_false, not_false_eq_true, decide_true, decide_false, Bool.not_true, Bool.not_false, false_implies, true_implies, and_true, true_and, Bool.false_eq_true, Bool.true_eq_false, implies_true, Bool.not_not, Classical.not_not, go_sem, Int.reduceToNat, List.take_nil, Nat.zero_mul, Nat.reduceEqDiff, Nat.reduceAdd, Nat.reduceLT, Nat.reduceLeDiff, Nat.reduceMul, ↓reduceIte, reduceCtorEq]
          refine ⟨hil, by omega, by omega, fun g1 => ⟨hil, hil, fun g2 => ?_, fun g2 => ⟨by omega, ⟨hil, hno (fun hh => by omega)⟩, Wk.keep (by simp [look_cons])⟩⟩, fun g1 => ⟨by omega, ⟨hil, hno (fun hh => g1 hh.1)⟩, Wk.keep (by simp [look_cons])⟩⟩
          have hl6 : codeAt L R k = 6 := by
            rw [hck, if_pos]
            exact lateNow_iff.2 ⟨i, hil, by rw [gL]; exact g1, by rw [gL]; omega⟩
          have := hres (by omega)
          rw [hl6] at this
          exact Fin.pick [0, 1, 2] (.tup [.i .i64 6, .i .i64 k]) [.ro (encTask.row S), .ro (encJob.row L), .ro (encInt.row R)] ⟨[], rfl, rfl, 6, k, this, rfl⟩
        · have h0 : codeAt L R k = 0 := by
            rw [hck, if_neg]
            intro hl3
            obtain ⟨m, hm, h3, h4⟩ := lateNow_iff.1 hl3
            exact hJ2 m (by omega) ⟨h3, h4⟩
          rw [show ((k + 1 : Nat) : Int) = (k : Int) + 1 by omega]
          exact ⟨by omega, ⟨by omega, hJ1 h0⟩, Wk.keep (by simp [look_cons])⟩
  · exact Fin.pick [0, 1, 2] (.tup [.i .i64 0, .i .i64 0]) [.ro (encTask.row S), .ro (encJob.row L), .ro (encInt.row R)] ⟨[], rfl, rfl, 0, 0, .inr (.inr ⟨h1, hR, .inl ⟨rfl, rfl, fun t ht => hJ t (by omega)⟩⟩), rfl⟩

theorem spec_CheckSchedule_ {S : List Task} {L : List Job} {R : List Int} {v u z : AV} {σ : List AB} {K : AV → List AB → Prop} (hs : S.length ≤ 1048576) (hl : L.length ≤ 1048576) (hr : R.length ≤ 1048576) (h1 : Rd encTask σ v S) (h2 : Rd encJob σ u L) (h3 : Rd encInt σ z R)
    (hk : ∀ c a, ChkR S L R c a → K (.tup [.i .i64 c, .i .i64 a]) σ) : CallWp Try.prog n_spec_CheckSchedule [v, u, z] σ K := by
  refine call_news _ (rds_cons h1.r (rds_cons h2.r (rds1 h3.r))) (fun c => [.sl 0 0 S.length (c 0), .sl 1 0 L.length (c 1), .sl 2 0 R.length (c 2)]) (ChkG S L R) (fun c => spec_CheckSchedule0 S L R hs hl hr (c 0) (c 1) (c 2)) (fun _ _ h => h.fr) (fun ν c h => ⟨h.1, h.2.1, h.2.2.1, trivial⟩) (fun _ => rfl) ?_
  rintro x τ ⟨rfl, c, a, h, rfl⟩
  rw [List.append_nil]; exact hk c a h
end Go.Proofs.Ytgnlibnnpipbhaa
