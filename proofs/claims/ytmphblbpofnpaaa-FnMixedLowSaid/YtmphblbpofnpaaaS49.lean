import Derived.Test.YtmphblbpofnpaaaS48
import Derived.Test.YtmphblbpofnpaaaSX
namespace Go.Proofs.Ytmphblbpofnpaaa
open Go.Abs Go.Ds
set_option linter.unusedSimpArgs false
set_option linter.unusedVariables false
set_option maxRecDepth 20000
set_option maxHeartbeats 4000000
theorem spec_l20Mixed_ {σ : List AB} {n m o c : Nat} {B : List Nat} {p : Int} (h : Rdr ty_spec_l20Rd σ n B p m o c) (hC : Code B) (hp : 0 ≤ p ∧ p ≤ 3700000000000) (k : Int) (hk : k ≤ 1000) {K : AV → List AB → Prop}
    (hK : ∀ (L : List MTask) (cap : Nat) (p' : Int), p ≤ p' → p' ≤ p + 200 → L.length ≤ 8 → (∀ t ∈ L, wildM t) → (k ≤ 0 → mixOk L) → K (.sl σ.length 0 L.length cap) (σ.set n (.rw ty_spec_l20Rd [.sl m o B.length c, .i .i64 p'] 2) ++ [.rw ty_impl_MixedTask (encMT.row L) (cap * 4)])) :
    CallWp Try.prog n_spec_l20Mixed [.p n 0, .i .i64 k] σ K := by
  refine call_rdr ty_spec_l20Rd h [] (by simp) (fun _ => [.i .i64 k]) (MSetP k p) (fun _ => spec_l20Mixed0 B p hC hp k hk c) ?_ (fun _ _ _ => ⟨.inl rfl, trivial⟩) (fun _ => rfl) ?_
  · rintro x p' τ ⟨_, L, cap, rfl, rfl, _⟩; exact ⟨by simp [plainRw, encMT.row_flat], rfl⟩
  · rintro x p' τ ⟨⟨h1, h2⟩, L, cap, rfl, rfl, h3, h4, h5⟩
    exact hK L cap p' h1 h2 h3 h4 h5
def lowJ (S : List MTask) (j : Job) : Prop := (0 ≤ j.T ∧ j.T < S.length) ∧ 1 ≤ j.E ∧ j.E ≤ (gM S j.T).Lo
def MJobsP (S : List MTask) (low : Bool) (n : Int) (s : Nat) (p : Int) (x : AV) (p' : Int) (τ : List AB) : Prop := (p ≤ p' ∧ p' ≤ p + 4000) ∧ ∃ (L : List Job) (cap : Nat), x = .sl s 0 L.length cap ∧ τ = [.rw ty_impl_Job (encJob.row L) (cap * 4)] ∧ L.length ≤ 62 ∧ (low = true → n ≤ 0 → ∀ j ∈ L, lowJ S j)
structure MJ (S : List MTask) (low : Bool) (n : Int) (k : Nat) (M : List Job) : Prop where
  len : M.length ≤ 62
  wild : ∀ i (h : i < M.length), k ≤ i → wildJ M[i]
  fresh : n ≤ 0 → ∀ i (h : i < M.length), k ≤ i → (0 ≤ M[i].T ∧ M[i].T < S.length) ∧ M[i].E = 1
  done : low = true → n ≤ 0 → ∀ i (h : i < M.length), i < k → lowJ S M[i]
theorem MJ.skip {S : List MTask} {low : Bool} {n : Int} {k : Nat} {M : List Job} (h : MJ S low n k M) (hk : k < M.length) (hb : ¬ ((0 ≤ M[k].T ∧ M[k].T < S.length) ∧ M[k].E = 1)) : MJ S low n (k + 1) M :=
  ⟨h.len, fun i hi hki => h.wild i hi (by omega), fun hn i hi hki => h.fresh hn i hi (by omega), fun hl hn i hi hik => by
    by_cases e : i = k
    · subst e; exact absurd (h.fresh hn i hi (Nat.le_refl _)) hb
    · exact h.done hl hn i hi (by omega)⟩
theorem MJ.put {S : List MTask} {low : Bool} {n : Int} {k : Nat} {M : List Job} (h : MJ S low n k M) (hk : k < M.length) (e : Int) (hg : low = true → lowJ S ⟨M[k].T, M[k].R, M[k].D, e⟩) : MJ S low n (k + 1) (M.set k ⟨M[k].T, M[k].R, M[k].D, e⟩) := by
  refine ⟨by rw [List.length_set]; exact h.len, fun i hi hki => ?_, fun hn i hi hki => ?_, fun hl hn i hi hik => ?_⟩
  · rw [List.length_set] at hi
    rw [List.getElem_set_ne (by omega)]; exact h.wild i hi (by omega)
  · rw [List.length_set] at hi
    rw [List.getElem_set_ne (by omega)]; exact h.fresh hn i hi (by omega)
  · rw [List.length_set] at hi
    by_cases e : k = i
    · subst e; rw [List.getElem_set_self]; exact hg hl
    · rw [List.getElem_set_ne e]; exact h.done hl hn i hi (by omega)
theorem spec_l20MixedJobs0 (B : List Nat) (p : Int) (hC : Code B) (hp : 0 ≤ p ∧ p ≤ 3500000000000) (S : List MTask) (hS : mixOk S) (low : Bool) (n : Int) (hn : n ≤ 1000) (c c2 : Nat) :
    CallWp Try.prog n_spec_l20MixedJobs [.p 1 0, .sl 2 0 S.length c2, .b low, .i .i64 n] (rdr B c p ++ [.ro (encMT.row S)]) (fun x σ' => ∃ p' τ, σ' = (rdr B c p' ++ [.ro (encMT.row S)]) ++ τ ∧ MJobsP S low n 3 p x p' τ) := by
  have h5 := hS.1
  have hpl : ∀ k, (plainS (S.take k)).length = (S.take k).length := fun k => by simp [plainS]
  have hps : (plainS S).length = S.length := by simp [plainS]
  refine call_spec_l20MixedJobs (by simp) ?_
  simp only [c_spec_l20MixedJobs, go_sem, Int.reduceToNat, List.take_nil, Nat.zero_mul, Nat.reduceEqDiff, Nat.reduceAdd, Nat.reduceLT, Nat.reduceLeDiff, Nat.reduceMul, ↓reduceIte, reduceCtorEq]
  refine loop_intro (fun i : Nat × Nat => ⟨[(0, .p 1 0), (1, .sl 2 0 S.length c2), (2, .b low), (3, .i .i64 n), (9, .sl 3 0 i.1 i.2), (10, .i .i64 i.1)], rdr B c p ++ [.ro (encMT.row S), .rw ty_impl_Task (encTask.row (plainS (S.take i.1))) (i.2 * 3)]⟩)
    (fun i => i.1 ≤ S.length ∧ i.1 ≤ i.2) (fun i => S.length - i.1) (0, 0) ⟨by simp only; omega, by simp only; omega⟩ (by simp only [List.take_zero, show encTask.row (plainS []) = [] from rfl]; exact Wk.pick [0, 1, 2, 3]) ?_
  rintro ⟨k, cp⟩ ⟨hk1, hk2⟩
  simp only at hk1 hk2
  simp only [l1_spec_l20MixedJobs, not_true_eq_false, not_false_eq_true, decide_true, decide_false, Bool.not_true, Bool.not_false, false_implies, true_implies, and_true, true_and, Bool.false_eq_true, Bool.true_eq_false, implies_true, Bool.not_not, Classical.not_not, go_sem, Int.reduceToNat, List.take_nil, Nat.zero_mul, Nat.reduceEqDiff, Nat.reduceAdd, Nat.reduceLT, Nat.reduceLeDiff, Nat.reduceMul, ↓reduceIte, reduceCtorEq]
  refine ⟨fun hlt => ?_, fun hge => ?_⟩
  · have e1 : (S.take k).length = k := by rw [List.length_take]; omega
    have e2 : (plainS (S.take k)).length = k := by rw [hpl, e1]
    have e3 : plainS (S.take (k + 1)) = plainS (S.take k) ++ [⟨1, S[k].P, S[k].P⟩] := by
      rw [List.take_succ_eq_append_getElem hlt]; unfold plainS; rw [List.map_append]; rfl
    have e4 : List.take (k * 3) (encTask.row (plainS (S.take k))) = encTask.row (plainS (S.take k)) := by have := takeT (plainS (S.take k)); rwa [e2] at this
    simp only [rdM2 hlt, lenM, lenT, e2, e4, appT, not_true_eq_false, not_false_eq_true, decide_true, decide_false, Bool.not_true, Bool.not_false, false_implies, true_implies, and_true, true_and, Bool.false_eq_true, Bool.true_eq_false, implies_true, Bool.not_not, Classical.not_not, go_sem, Int.reduceToNat, List.take_nil, Nat.zero_mul, Nat.reduceEqDiff, Nat.reduceAdd, Nat.reduceLT, Nat.reduceLeDiff, Nat.reduceMul, ↓reduceIte, reduceCtorEq]
    refine ⟨hlt, by omega, hlt, by omega, by omega, by omega, fun cp' hcp => ⟨by omega, by omega, (k + 1, cp'), ⟨⟨by simp only; omega, by simp only; omega⟩, by simp only; omega⟩, ?_⟩⟩
    simp only [e3, show ((k + 1 : Nat) : Int) = (k : Int) + 1 from by omega]
    exact Wk.pick [0, 1, 2, 5]
  · have ek : k = S.length := by omega
    subst ek
    rw [List.take_length]
    have hS' := plain_ok hS
    rw [← hps]
    refine spec_l20JobsC_ (S := plainS S) (Rdr.of (τ := [_, _])) hC (by omega) hS' (Sl.own rfl (by decide)) _ (by omega) fun M cm p1 h11 h12 hM62 hMw hM0 => ?_
    rw [hps]
    simp only [not_true_eq_false, not_false_eq_true, decide_true, decide_false, Bool.not_true, Bool.not_false, false_implies, true_implies, and_true, true_and, Bool.false_eq_true, Bool.true_eq_false, implies_true, Bool.not_not, Classical.not_not, go_sem, Int.reduceToNat, List.take_nil, Nat.zero_mul, Nat.reduceEqDiff, Nat.reduceAdd, Nat.reduceLT, Nat.reduceLeDiff, Nat.reduceMul, ↓reduceIte, reduceCtorEq]
    have hMJ : MJ S low n 0 M := ⟨hM62, fun i hi _ => hMw _ (List.getElem_mem hi), fun hn i hi _ => by
      have := hM0 hn _ (List.getElem_mem hi)
      unfold wild0 at this
      rw [hps] at this
      have hg := plain_gT (S := S) (k := M[i].T) (by omega) (by omega)
      rw [hg] at this
      simp only at this
      omega, fun _ _ i hi h => absurd h (by omega)⟩
    refine loop_intro (fun i : List Job × Int × Nat => ⟨[(0, .p 1 0), (1, .sl 2 0 S.length c2), (2, .b low), (11, .sl 3 0 i.1.length cm), (12, .i .i64 i.2.2)], rdr B c i.2.1 ++ [.ro (encMT.row S), .rw ty_impl_Job (encJob.row i.1) (cm * 4)]⟩)
      (fun i => MJ S low n i.2.2 i.1 ∧ i.2.2 ≤ i.1.length ∧ p1 ≤ i.2.1 ∧ i.2.1 ≤ p1 + 3 * i.2.2) (fun i => i.1.length - i.2.2) (M, p1, 0) ⟨hMJ, by simp only; omega, by simp only; omega⟩ (Wk.pick [0, 1, 2, 4]) ?_
    clear hMJ hM62 hMw hM0
    rintro ⟨M, q, k⟩ ⟨hJ, hk1, hq1, hq2⟩
    simp only at hJ hk1 hq1 hq2
    have hM62 := hJ.len
    simp only [l0_spec_l20MixedJobs, not_true_eq_false, not_false_eq_true, decide_true, decide_false, Bool.not_true, Bool.not_false, false_implies, true_implies, and_true, true_and, Bool.false_eq_true, Bool.true_eq_false, implies_true, Bool.not_not, Classical.not_not, go_sem, Int.reduceToNat, List.take_nil, Nat.zero_mul, Nat.reduceEqDiff, Nat.reduceAdd, Nat.reduceLT, Nat.reduceLeDiff, Nat.reduceMul, ↓reduceIte, reduceCtorEq]
    refine ⟨fun hlt => ?_, fun hge => ?_⟩
    · have hw := hJ.wild k hlt (Nat.le_refl _)
      unfold wildJ at hw
      simp only [rdJ0 hlt, rdJ3 hlt, lenJ, lenM, not_true_eq_false, not_false_eq_true, decide_true, decide_false, Bool.not_true, Bool.not_false, false_implies, true_implies, and_true, true_and, Bool.false_eq_true, Bool.true_eq_false, implies_true, Bool.not_not, Classical.not_not, go_sem, Int.reduceToNat, List.take_nil, Nat.zero_mul, Nat.reduceEqDiff, Nat.reduceAdd, Nat.reduceLT, Nat.reduceLeDiff, Nat.reduceMul, ↓reduceIte, reduceCtorEq]
      refine ⟨hlt, by omega, fun h1 => ⟨fun h2 => ⟨by omega, by omega, fun h3 => ?_, fun h3 => ?_⟩, fun h2 => ?_⟩, fun h1 => ?_⟩
      · refine ⟨by omega, (M, q, k + 1), ⟨⟨hJ.skip hlt (by omega), by simp only; omega, by simp only; omega⟩, by simp only; omega⟩, ?_⟩
        simp only [show ((k + 1 : Nat) : Int) = (k : Int) + 1 from by omega]
        exact Wk.pick [0, 1, 2, 3]
      · obtain ⟨t0, ht0⟩ := Int.eq_ofNat_of_zero_le (show 0 ≤ M[k].T by omega)
        have htS : t0 < S.length := by omega
        have hok := hS.2 _ (List.getElem_mem htS)
        unfold MTask.ok at hok
        have hgM : gM S M[k].T = S[t0] := by rw [ht0, gM_nat htS]
        simp only [ht0, Int.toNat_natCast, rdM0 htS, splJ3 hlt, lenJ, lenM, not_true_eq_false, not_false_eq_true, decide_true, decide_false, Bool.not_true, Bool.not_false, false_implies, true_implies, and_true, true_and, Bool.false_eq_true, Bool.true_eq_false, implies_true, Bool.not_not, Classical.not_not, go_sem, Int.reduceToNat, List.take_nil, Nat.zero_mul, Nat.reduceEqDiff, Nat.reduceAdd, Nat.reduceLT, Nat.reduceLeDiff, Nat.reduceMul, ↓reduceIte, reduceCtorEq]
        iterate 4 refine ⟨by omega, ?_⟩
        have hls : ∀ e : Int, (M.set k ⟨(t0 : Int), M[k].R, M[k].D, e⟩).length = M.length := fun e => List.length_set ..
        have hat : ∀ (e : Int) (h : k < (M.set k ⟨(t0 : Int), M[k].R, M[k].D, e⟩).length), (M.set k ⟨(t0 : Int), M[k].R, M[k].D, e⟩)[k]'h = ⟨(t0 : Int), M[k].R, M[k].D, e⟩ := fun e h => List.getElem_set_self ..
        have hlt' : ∀ e : Int, k < (M.set k ⟨(t0 : Int), M[k].R, M[k].D, e⟩).length := fun e => by rw [hls]; exact hlt
        have hss : ∀ e e' : Int, (M.set k ⟨(t0 : Int), M[k].R, M[k].D, e⟩).set k ⟨(t0 : Int), M[k].R, M[k].D, e'⟩ = M.set k ⟨(t0 : Int), M[k].R, M[k].D, e'⟩ := fun e e' => List.set_set ..
        have hsp : ∀ e e' : Int, spl (encJob.row (M.set k ⟨(t0 : Int), M[k].R, M[k].D, e⟩)) (k * 4 + 3) [.i .i64 e'] = encJob.row (M.set k ⟨(t0 : Int), M[k].R, M[k].D, e'⟩) := fun e e' => by
          rw [splJ3 (hlt' e), hat e (hlt' e)]
          simp only [hss]
        refine seq_join (fun i : Int × Int => ⟨[(0, .p 1 0), (1, .sl 2 0 S.length c2), (2, .b low), (11, .sl 3 0 M.length cm), (12, .i .i64 k)], rdr B c i.2 ++ [.ro (encMT.row S), .rw ty_impl_Job (encJob.row (M.set k ⟨(t0 : Int), M[k].R, M[k].D, i.1⟩)) (cm * 4)]⟩)
          (fun i => ((1 ≤ i.1 ∧ i.1 ≤ 12) ∧ (low = true → i.1 ≤ S[t0].Lo)) ∧ q ≤ i.2 ∧ i.2 ≤ q + 1) ?_ ?_
        · refine seq_join (fun i : Bool × Int => ⟨[(0, .p 1 0), (1, .sl 2 0 S.length c2), (2, .b low), (11, .sl 3 0 M.length cm), (12, .i .i64 k), (13, .i .i64 t0), (81, .b i.1)], rdr B c i.2 ++ [.ro (encMT.row S), .rw ty_impl_Job (encJob.row (M.set k ⟨(t0 : Int), M[k].R, M[k].D, S[t0].Lo⟩)) (cm * 4)]⟩)
            (fun i => (low = true → i.1 = false) ∧ q ≤ i.2 ∧ i.2 ≤ q + 1) ?_ ?_
          · cases low
            · simp only [not_true_eq_false, not_false_eq_true, decide_true, decide_false, Bool.not_true, Bool.not_false, false_implies, true_implies, and_true, true_and, Bool.false_eq_true, Bool.true_eq_false, implies_true, Bool.not_not, Classical.not_not, go_sem, Int.reduceToNat, List.take_nil, Nat.zero_mul, Nat.reduceEqDiff, Nat.reduceAdd, Nat.reduceLT, Nat.reduceLeDiff, Nat.reduceMul, ↓reduceIte, reduceCtorEq]
              refine spec_l20Rd_pick_ (Rdr.of (τ := [_, _])) hC (by omega) _ (by omega) fun r g1 g2 _ => ?_
              simp only [not_true_eq_false, not_false_eq_true, decide_true, decide_false, Bool.not_true, Bool.not_false, false_implies, true_implies, and_true, true_and, Bool.false_eq_true, Bool.true_eq_false, implies_true, Bool.not_not, Classical.not_not, go_sem, Int.reduceToNat, List.take_nil, Nat.zero_mul, Nat.reduceEqDiff, Nat.reduceAdd, Nat.reduceLT, Nat.reduceLeDiff, Nat.reduceMul, ↓reduceIte, reduceCtorEq]
              exact kJ_intro (decide (r = 0), q + 1) (by refine ⟨?_, ?_⟩ <;> dsimp only <;> omega) (Wk.pick [0, 1, 2, 3])
            · simp only [not_true_eq_false, not_false_eq_true, decide_true, decide_false, Bool.not_true, Bool.not_false, false_implies, true_implies, and_true, true_and, Bool.false_eq_true, Bool.true_eq_false, implies_true, Bool.not_not, Classical.not_not, go_sem, Int.reduceToNat, List.take_nil, Nat.zero_mul, Nat.reduceEqDiff, Nat.reduceAdd, Nat.reduceLT, Nat.reduceLeDiff, Nat.reduceMul, ↓reduceIte, reduceCtorEq]
              exact kJ_intro (false, q) ⟨rfl, by refine ⟨?_, ?_⟩ <;> dsimp only <;> omega⟩ (Wk.pick [0, 1, 2, 3])
          · rintro ⟨b, q1'⟩ ⟨hb1, hb2⟩
            simp only at hb1 hb2
            simp only [not_true_eq_false, not_false_eq_true, decide_true, decide_false, Bool.not_true, Bool.not_false, false_implies, true_implies, and_true, true_and, Bool.false_eq_true, Bool.true_eq_false, implies_true, Bool.not_not, Classical.not_not, go_sem, Int.reduceToNat, List.take_nil, Nat.zero_mul, Nat.reduceEqDiff, Nat.reduceAdd, Nat.reduceLT, Nat.reduceLeDiff, Nat.reduceMul, ↓reduceIte, reduceCtorEq]
            refine bc_of (fun hb => ?_) (fun hb => ?_)
            · simp only [Int.toNat_natCast, rdM1 htS, hsp, lenJ, lenM, hls, not_true_eq_false, not_false_eq_true, decide_true, decide_false, Bool.not_true, Bool.not_false, false_implies, true_implies, and_true, true_and, Bool.false_eq_true, Bool.true_eq_false, implies_true, Bool.not_not, Classical.not_not, go_sem, Int.reduceToNat, List.take_nil, Nat.zero_mul, Nat.reduceEqDiff, Nat.reduceAdd, Nat.reduceLT, Nat.reduceLeDiff, Nat.reduceMul, ↓reduceIte, reduceCtorEq]
              iterate 4 refine ⟨by omega, ?_⟩
              exact kJ_intro (S[t0].Hi, q1') ⟨⟨by simp only; omega, fun h => by rw [hb1 h] at hb; cases hb⟩, by simp only; omega⟩ (Wk.pick [0, 1, 2, 3])
            · exact kJ_intro (S[t0].Lo, q1') ⟨⟨by simp only; omega, fun _ => Int.le_refl _⟩, by simp only; omega⟩ (Wk.pick [0, 1, 2, 3])
        · rintro ⟨e, q2⟩ ⟨⟨he1, he2⟩, hq3, hq4⟩
          simp only at he1 he2 hq3 hq4
          simp only [not_true_eq_false, not_false_eq_true, decide_true, decide_false, Bool.not_true, Bool.not_false, false_implies, true_implies, and_true, true_and, Bool.false_eq_true, Bool.true_eq_false, implies_true, Bool.not_not, Classical.not_not, go_sem, Int.reduceToNat, List.take_nil, Nat.zero_mul, Nat.reduceEqDiff, Nat.reduceAdd, Nat.reduceLT, Nat.reduceLeDiff, Nat.reduceMul, ↓reduceIte, reduceCtorEq]
          refine spec_l20Rd_pick_ (Rdr.of (τ := [_, _])) hC (by omega) _ (by omega) fun r g1 g2 _ => ?_
          have good : ∀ e' : Int, 1 ≤ e' → e' ≤ e → MJ S low n (k + 1) (M.set k ⟨(t0 : Int), M[k].R, M[k].D, e'⟩) := fun e' k1 k2 => by
            have := hJ.put hlt e' (fun hl => by
              unfold lowJ
              simp only [hgM]
              have := he2 hl
              omega)
            rwa [ht0] at this
          simp only [not_true_eq_false, not_false_eq_true, decide_true, decide_false, Bool.not_true, Bool.not_false, false_implies, true_implies, and_true, true_and, Bool.false_eq_true, Bool.true_eq_false, implies_true, Bool.not_not, Classical.not_not, go_sem, Int.reduceToNat, List.take_nil, Nat.zero_mul, Nat.reduceEqDiff, Nat.reduceAdd, Nat.reduceLT, Nat.reduceLeDiff, Nat.reduceMul, ↓reduceIte, reduceCtorEq]
          refine ⟨fun h4 => ?_, fun h4 => ?_⟩
          · simp only [rdJ3 (hlt' e), hat e (hlt' e), lenJ, hls, not_true_eq_false, not_false_eq_true, decide_true, decide_false, Bool.not_true, Bool.not_false, false_implies, true_implies, and_true, true_and, Bool.false_eq_true, Bool.true_eq_false, implies_true, Bool.not_not, Classical.not_not, go_sem, Int.reduceToNat, List.take_nil, Nat.zero_mul, Nat.reduceEqDiff, Nat.reduceAdd, Nat.reduceLT, Nat.reduceLeDiff, Nat.reduceMul, ↓reduceIte, reduceCtorEq]
            iterate 2 refine ⟨by omega, ?_⟩
            refine spec_l20Rd_pick_ (Rdr.of (τ := [_, _])) hC (by omega) _ (by omega) fun r2 g3 g4 _ => ?_
            have g4 := g4 (by omega)
            simp only [hsp, lenJ, hls, not_true_eq_false, not_false_eq_true, decide_true, decide_false, Bool.not_true, Bool.not_false, false_implies, true_implies, and_true, true_and, Bool.false_eq_true, Bool.true_eq_false, implies_true, Bool.not_not, Classical.not_not, go_sem, Int.reduceToNat, List.take_nil, Nat.zero_mul, Nat.reduceEqDiff, Nat.reduceAdd, Nat.reduceLT, Nat.reduceLeDiff, Nat.reduceMul, ↓reduceIte, reduceCtorEq]
            refine ⟨by omega, by omega, by omega, by omega, (M.set k ⟨(t0 : Int), M[k].R, M[k].D, 1 + r2⟩, q2 + 1 + 1, k + 1), ⟨⟨good _ (by omega) (by omega), by simp only [hls]; omega, by simp only; omega⟩, by simp only [hls]; omega⟩, ?_⟩
            simp only [hls, show ((k + 1 : Nat) : Int) = (k : Int) + 1 from by omega]
            exact Wk.pick [0, 1, 2, 3]
          · refine ⟨by omega, (M.set k ⟨(t0 : Int), M[k].R, M[k].D, e⟩, q2 + 1, k + 1), ⟨⟨good _ (by omega) (by omega), by simp only [hls]; omega, by simp only; omega⟩, by simp only [hls]; omega⟩, ?_⟩
            simp only [hls, show ((k + 1 : Nat) : Int) = (k : Int) + 1 from by omega]
            exact Wk.pick [0, 1, 2, 3]
      · refine ⟨by omega, (M, q, k + 1), ⟨⟨hJ.skip hlt (by omega), by simp only; omega, by simp only; omega⟩, by simp only; omega⟩, ?_⟩
        simp only [show ((k + 1 : Nat) : Int) = (k : Int) + 1 from by omega]
        exact Wk.pick [0, 1, 2, 3]
      · refine ⟨by omega, (M, q, k + 1), ⟨⟨hJ.skip hlt (by omega), by simp only; omega, by simp only; omega⟩, by simp only; omega⟩, ?_⟩
        simp only [show ((k + 1 : Nat) : Int) = (k : Int) + 1 from by omega]
        exact Wk.pick [0, 1, 2, 3]
    · have ek : k = M.length := by omega
      exact Fin.plain ⟨q, _, rfl, ⟨by omega, by omega⟩, M, cm, rfl, rfl, hM62, fun hl hn j hj => by
        obtain ⟨i, hi, rfl⟩ := List.getElem_of_mem hj
        exact hJ.done hl hn i hi (by omega)⟩
theorem spec_l20MixedJobs_ {σ : List AB} {n m o c : Nat} {B : List Nat} {p : Int} (h : Rdr ty_spec_l20Rd σ n B p m o c) (hC : Code B) (hp : 0 ≤ p ∧ p ≤ 3500000000000) {S : List MTask} (hS : mixOk S) {low : Bool} {v : AV} (hv : (⟨v, S.length, encMT.row S⟩ : Sl).okx σ n)
    (k : Int) (hk : k ≤ 1000) {K : AV → List AB → Prop}
    (hK : ∀ (L : List Job) (cap : Nat) (p' : Int), p ≤ p' → p' ≤ p + 4000 → L.length ≤ 62 → (low = true → k ≤ 0 → ∀ j ∈ L, lowJ S j) → K (.sl σ.length 0 L.length cap) (σ.set n (.rw ty_spec_l20Rd [.sl m o B.length c, .i .i64 p'] 2) ++ [.rw ty_impl_Job (encJob.row L) (cap * 4)])) :
    CallWp Try.prog n_spec_l20MixedJobs [.p n 0, v, .b low, .i .i64 k] σ K := by
  refine call_rdr ty_spec_l20Rd h [⟨v, S.length, encMT.row S⟩] (by intro s hs; rw [List.mem_singleton.1 hs]; exact hv) (fun q => [.sl 2 0 S.length (q 2), .b low, .i .i64 k]) (MJobsP S low k 3 p) (fun q => spec_l20MixedJobs0 B p hC hp S hS low k hk c (q 2)) ?_ (fun _ _ h => ⟨h.1, .inl rfl, .inl rfl, trivial⟩) (fun _ => rfl) ?_
  · rintro x p' τ ⟨_, L, cap, rfl, rfl, _⟩; exact ⟨by simp [plainRw, encJob.row_flat], rfl⟩
  · rintro x p' τ ⟨⟨h1, h2⟩, L, cap, rfl, rfl, h3, h4⟩
    exact hK L cap p' h1 h2 h3 h4
theorem spec_DrawMixedLow0 (C : List Nat) (hC : ∀ x ∈ C, x < 256) (c : Nat) (hc : C.length ≤ c) : CallWp Try.prog n_spec_DrawMixedLow [.sl 0 0 C.length c] [.ro (encByte.row C)] (fun x σ' => ∃ (S : List MTask) (L : List Job) (cap cap' : Nat),
    x = .tup [.sl 1 0 S.length cap, .sl 2 0 L.length cap'] ∧ σ' = [.ro (encByte.row C), .rw ty_impl_MixedTask (encMT.row S) (cap * 4), .rw ty_impl_Job (encJob.row L) (cap' * 4)] ∧ S.length ≤ 8 ∧ L.length ≤ 62 ∧ ∀ j ∈ L, lowJ S j) := by
  refine call_spec_DrawMixedLow (by simp) ?_
  simp only [c_spec_DrawMixedLow, go_sem, Int.reduceToNat, List.take_nil, Nat.zero_mul, Nat.reduceEqDiff, Nat.reduceAdd, Nat.reduceLT, Nat.reduceLeDiff, Nat.reduceMul, ↓reduceIte, reduceCtorEq]
  refine (spec_l20Open0 C c hc).mono ?_
  rintro x σ' _ ⟨rfl, rfl⟩
  simp only [go_sem, Int.reduceToNat, List.take_nil, Nat.zero_mul, Nat.reduceEqDiff, Nat.reduceAdd, Nat.reduceLT, Nat.reduceLeDiff, Nat.reduceMul, ↓reduceIte, reduceCtorEq]
  refine spec_l20Mixed_ (Rdr.take (τ := [])) (Code.take hC) (by omega) _ (by omega) fun S cap p1 h11 h12 hS8 hS hv => ?_
  simp only [go_sem, Int.reduceToNat, List.take_nil, Nat.zero_mul, Nat.reduceEqDiff, Nat.reduceAdd, Nat.reduceLT, Nat.reduceLeDiff, Nat.reduceMul, ↓reduceIte, reduceCtorEq]
  refine spec_l20MixedJobs_ (Rdr.take (τ := [_])) (Code.take hC) (by omega) (hv (by omega)) (Sl.own rfl (by decide)) _ (by omega) fun L cap' p3 h31 h32 hL62 hL => ?_
  simp only [go_sem, Int.reduceToNat, List.take_nil, Nat.zero_mul, Nat.reduceEqDiff, Nat.reduceAdd, Nat.reduceLT, Nat.reduceLeDiff, Nat.reduceMul, ↓reduceIte, reduceCtorEq]
  exact Fin.pick [0, 2, 3] (.tup [.sl 1 0 S.length cap, .sl 2 0 L.length cap']) _ ⟨S, L, cap, cap', rfl, rfl, hS8, hL62, hL rfl (by omega)⟩
end Go.Proofs.Ytmphblbpofnpaaa
