/- Contracts: runs with the stack resource policy, of the program. -/
import Derived.Test.YtnlciginmeebhaaS33
namespace Go.Proofs.Ytnlciginmeebhaa
open Go.Abs Go.Ds
set_option linter.unusedSimpArgs false
set_option linter.unusedVariables false
set_option maxRecDepth 20000
set_option maxHeartbeats 2000000

theorem gI_nat {l : List Int} {k : Nat} (h : k < l.length) : gI l (k : Int) = l[k] := by simp [gI, List.getD_eq_getElem?_getD, h]

theorem impl_RunResources_1_1_ {σ : List AB} {b m : Nat} {L : List Job} {done : List Int} {now : Nat} (hb : cellsOf σ b = some [.p m 0]) (hm : Mach σ m L done now) (i : Nat) (hi : i < L.length) {K : AV → List AB → Prop} (hk : K (.b (startedB done i)) σ) : CallWp Try.prog n_impl_RunResources_1_1 [.i .i64 i, .p b 0] σ K := by
  obtain ⟨⟨j, c, d, c', e1, e2, e3⟩, e4⟩ := hm
  have hd : i < done.length := by omega
  refine call_impl_RunResources_1_1 (by simp) ?_
  simp only [c_impl_RunResources_1_1, onC_of hb, onC_of e1, onC_of e3, rdI hd, lenI, not_true_eq_false, not_false_eq_true, decide_true, decide_false, Bool.not_true, Bool.not_false, false_implies, true_implies, and_true, true_and, Bool.false_eq_true, Bool.true_eq_false, implies_true, Bool.not_not, Classical.not_not, go_sem, Int.reduceToNat, List.take_nil, Nat.zero_mul, Nat.reduceEqDiff, Nat.reduceAdd, Nat.reduceLT, Nat.reduceLeDiff, Nat.reduceMul, ↓reduceIte, reduceCtorEq]
  have e : startedB done i = decide (0 < done[i]) := by unfold startedB; rw [gI_nat hd]
  rw [e] at hk
  exact ⟨by omega, by omega, Fin.plain hk⟩

theorem impl_RunResources_1_ {σ : List AB} {a b t s n1 n2 n3 n4 c1 c2 c3 c4 m : Nat} {S : List Task} {X : List Sec} {L : List Job} {done : List Int} {now : Nat} (hX : secsOk S X) (hL : jobsLegal S L) (ha : cellsOf σ a = some [.sl n1 0 L.length c1]) (hn1 : cellsOf σ n1 = some (encJob.row L))
    (hb : cellsOf σ b = some [.sl n2 0 X.length c2]) (hn2 : cellsOf σ n2 = some (encSec.row X)) (ht : cellsOf σ t = some [.sl n3 0 3 c3]) (hn3 : cellsOf σ n3 = some (encInt.row [ceilR S X 0, ceilR S X 1, ceilR S X 2])) (hs : cellsOf σ s = some [.sl n4 0 S.length c4]) (hn4 : cellsOf σ n4 = some (encTask.row S))
    (hm : Mach σ m L done now) {K : AV → List AB → Prop} (hk : K (.i .i64 (srpPick S X L now done)) σ) : CallWp Try.prog n_impl_RunResources_1 [.p m 0, .p a 0, .p b 0, .p t 0, .p s 0] σ K := by
  have h60 := hL.2.1.1
  have hm0 := hm
  obtain ⟨⟨j, c, d, c', e1, e2, e3⟩, e4⟩ := hm0
  refine callC_impl_RunResources_1 (by simp) fun hC hA => ?_
  have hm' := hm.app [.rw ty_ptr_impl_machine [.p m 0] 1]
  simp only [c_impl_RunResources_1, List.append_assoc, at_new, at_new0, set_new, set_new0, not_true_eq_false, not_false_eq_true, decide_true, decide_false, Bool.not_true, Bool.not_false, false_implies, true_implies, and_true, true_and, Bool.false_eq_true, Bool.true_eq_false, implies_true, Bool.not_not, Classical.not_not, go_sem, Int.reduceToNat, List.take_nil, Nat.zero_mul, Nat.reduceEqDiff, Nat.reduceAdd, Nat.reduceLT, Nat.reduceLeDiff, Nat.reduceMul, ↓reduceIte, reduceCtorEq]
  refine impl_edf_ hm' (by omega) ?_
  have hj := edf_fair L now done
  unfold srpPick at hk
  generalize hej : edfPick L now done = e at *
  simp only [onC_old e1, List.append_assoc, at_new, at_new0, set_new, set_new0, not_true_eq_false, not_false_eq_true, decide_true, decide_false, Bool.not_true, Bool.not_false, false_implies, true_implies, and_true, true_and, Bool.false_eq_true, Bool.true_eq_false, implies_true, Bool.not_not, Classical.not_not, go_sem, Int.reduceToNat, List.take_nil, Nat.zero_mul, Nat.reduceEqDiff, Nat.reduceAdd, Nat.reduceLT, Nat.reduceLeDiff, Nat.reduceMul, ↓reduceIte, reduceCtorEq]
  have fin : ∀ x : AV, flat1 x = true → K x σ → ∀ τ, Fin σ.length (σ ++ τ) x K := fun x hx hk τ => Fin.drop hC (Nat.le_refl _) (by cases x <;> first | rfl | cases hx | (simp [Go.Abs.belowT]; exact all_flat hx)) hk
  refine ⟨fun hpos => ?_, fun hneg => ?_⟩
  · obtain ⟨n, rfl⟩ := Int.eq_ofNat_of_zero_le (show 0 ≤ e by omega)
    rcases hj with hj | ⟨n', hj, hn, hrd⟩
    · omega
    obtain rfl : n = n' := by omega
    have hnd : n < done.length := by omega
    have gd := gI_nat hnd
    simp only [Int.toNat_natCast, onC_old e3, rdI hnd, lenI, onC_old ha, not_true_eq_false, not_false_eq_true, decide_true, decide_false, Bool.not_true, Bool.not_false, false_implies, true_implies, and_true, true_and, Bool.false_eq_true, Bool.true_eq_false, implies_true, Bool.not_not, Classical.not_not, go_sem, Int.reduceToNat, List.take_nil, Nat.zero_mul, Nat.reduceEqDiff, Nat.reduceAdd, Nat.reduceLT, Nat.reduceLeDiff, Nat.reduceMul, ↓reduceIte, reduceCtorEq]
    refine ⟨by omega, by omega, fun hd => ?_, fun hd => ?_⟩
    · rw [if_pos (.inr (by rw [gd]; exact hd))] at hk
      exact fin _ rfl hk _
    rw [if_neg (by rw [gd]; omega)] at hk
    have hTn := (hL.2.1.mem (List.getElem_mem hn)).1
    have gL : ∀ k, (h : k < L.length) → L.getD k default = L[k] := fun k h => by simp [List.getD_eq_getElem?_getD, h]
    have hcl : [AB.rw ty_ptr_impl_machine [AV.p m 0] 1].all (Go.Abs.cellsIn (σ.length + 1)) = true := by
      have := cells_lt e1
      simp [Go.Abs.cellsIn, Go.Abs.below]; omega
    have hbelow : ∀ (k : Nat) (w : Int), ∀ p ∈ ([(1, .p a 0), (2, .p b 0), (3, .p t 0), (4, .p s 0), (5, .p σ.length 0), (7, .i .i64 (n : Int)), (8, .i .i64 w), (27, .i .i64 (L.length : Int)), (28, .i .i64 (k : Int))] : List (Nat × AV)), Go.Abs.belowT (σ.length + 1) p.2 = true := by
      have := cells_lt ha
      have := cells_lt hb
      have := cells_lt ht
      have := cells_lt hs
      intro k w p hp
      simp only [List.mem_cons, List.not_mem_nil, or_false] at hp
      rcases hp with rfl | rfl | rfl | rfl | rfl | rfl | rfl | rfl | rfl <;> simp [Go.Abs.belowT, Go.Abs.below1, Go.Abs.below] <;> omega
    refine loop_count L.length (fun k => ⟨[(1, .p a 0), (2, .p b 0), (3, .p t 0), (4, .p s 0), (5, .p σ.length 0), (7, .i .i64 (n : Int)), (8, .i .i64 (sysN S X L (heldI X L done now) k)), (27, .i .i64 L.length), (28, .i .i64 k)], σ ++ [.rw ty_ptr_impl_machine [.p m 0] 1]⟩) (fun _ => True) trivial (Wk.keep (by simp [look_cons, sysN])) fun k hk' _ => ?_
    simp only [l0_impl_RunResources_1, not_true_eq_false, not_false_eq_true, decide_true, decide_false, Bool.not_true, Bool.not_false, false_implies, true_implies, and_true, true_and, Bool.false_eq_true, Bool.true_eq_false, implies_true, Bool.not_not, Classical.not_not, go_sem, Int.reduceToNat, List.take_nil, Nat.zero_mul, Nat.reduceEqDiff, Nat.reduceAdd, Nat.reduceLT, Nat.reduceLeDiff, Nat.reduceMul, ↓reduceIte, reduceCtorEq]
    refine ⟨fun hlt => ?_, fun hge => ?_⟩
    · have hTk := (hL.2.1.mem (List.getElem_mem hlt)).1
      obtain ⟨q, hq⟩ := Int.eq_ofNat_of_zero_le hTk.1
      have hqX : q < X.length := by have := hX.2.1; omega
      have hkd : k < done.length := by omega
      have hjx : jX X L k = X[q] := by unfold jX; rw [gL k hlt, hq]; exact gX_at hqX
      have hsx := hX.2.2 q hqX
      rw [gX_at hqX] at hsx
      unfold secOk at hsx
      have htk := gT_ok hX.1 (show (0 : Int) ≤ q by omega) (show (q : Int) < S.length by omega)
      unfold Task.ok at htk
      have hsucc : sysN S X L (heldI X L done now) (k + 1) = if heldI X L done now k then (if ceilR S X (jX X L k).Rs < sysN S X L (heldI X L done now) k then ceilR S X (jX X L k).Rs else sysN S X L (heldI X L done now) k) else sysN S X L (heldI X L done now) k := rfl
      have hh : heldI X L done now k = (readyJ L done now k && decide (X[q].St < done[k] ∧ done[k] < X[q].St + X[q].Ln)) := by unfold heldI; rw [hjx, gI_nat hkd]; rfl
      rw [hh, hjx] at hsucc
      simp only [onC_old hb, onC_old ha, onC_old hn1, onC_old hn2, rdJ0 hlt, hq, Int.toNat_natCast, winX hqX, encXf, lenJ, lenX, List.append_assoc, at_new, at_new0, set_new, set_new0, not_true_eq_false, not_false_eq_true, decide_true, decide_false, Bool.not_true, Bool.not_false, false_implies, true_implies, and_true, true_and, Bool.false_eq_true, Bool.true_eq_false, implies_true, Bool.not_not, Classical.not_not, go_sem, Int.reduceToNat, List.take_nil, Nat.zero_mul, Nat.reduceEqDiff, Nat.reduceAdd, Nat.reduceLT, Nat.reduceLeDiff, Nat.reduceMul, ↓reduceIte, reduceCtorEq]
      have hrl : X[q].Rs.toNat < [ceilR S X 0, ceilR S X 1, ceilR S X 2].length := by simp; omega
      have hcr : [ceilR S X 0, ceilR S X 1, ceilR S X 2][X[q].Rs.toNat] = ceilR S X X[q].Rs := by
        rcases (show X[q].Rs = 0 ∨ X[q].Rs = 1 ∨ X[q].Rs = 2 by omega) with h | h | h <;> simp [h]
      have next : ∀ (T : List (Nat × AV)) (w : Int), sysN S X L (heldI X L done now) (k + 1) = w → (∀ p ∈ ([(1, .p a 0), (2, .p b 0), (3, .p t 0), (4, .p s 0), (5, .p σ.length 0), (7, .i .i64 (n : Int)), (8, .i .i64 w), (27, .i .i64 (L.length : Int)), (28, .i .i64 ((k + 1 : Nat) : Int))] : List (Nat × AV)), Abs.look T p.1 = p.2) →
          (-9223372036854775808 ≤ (k : Int) + 1 ∧ (k : Int) + 1 ≤ 9223372036854775807) ∧ k < L.length ∧ Wk σ.length 94 ⟨T, σ ++ [.rw ty_ptr_impl_machine [.p m 0] 1, .rw ty_impl_Section [.i .i64 X[q].St, .i .i64 X[q].Ln, .i .i64 X[q].Rs] 3]⟩
            ⟨[(1, .p a 0), (2, .p b 0), (3, .p t 0), (4, .p s 0), (5, .p σ.length 0), (7, .i .i64 (n : Int)), (8, .i .i64 (sysN S X L (heldI X L done now) (k + 1))), (27, .i .i64 L.length), (28, .i .i64 ((k + 1 : Nat) : Int))], σ ++ [.rw ty_ptr_impl_machine [.p m 0] 1]⟩ := by
        intro T w hw hT
        rw [hw]
        exact ⟨by omega, hlt, Wk.drop2 [_] [_] hC hcl (Nat.le_refl _) fun p hp => ⟨hT p hp, hbelow _ _ p hp⟩⟩
      refine ⟨hlt, by omega, hqX, by omega, ⟨by omega, by omega⟩, onCall.by (impl_machine_ready_ (hm.app _) k hlt ⟨rfl, rfl⟩) ?_⟩
      simp only [onC_old e1, onC_old e3, onC_old ht, onC_old hn3, rdI hkd, rdI hrl, lenI, hcr, List.append_assoc, at_new, at_new0, set_new, set_new0, not_true_eq_false, not_false_eq_true, decide_true, decide_false, Bool.not_true, Bool.not_false, false_implies, true_implies, and_true, true_and, Bool.false_eq_true, Bool.true_eq_false, implies_true, Bool.not_not, Classical.not_not, go_sem, Int.reduceToNat, List.take_nil, Nat.zero_mul, Nat.reduceEqDiff, Nat.reduceAdd, Nat.reduceLT, Nat.reduceLeDiff, Nat.reduceMul, ↓reduceIte, reduceCtorEq]
      generalize readyJ L done now k = rb at *
      cases rb
      · simp only [not_true_eq_false, not_false_eq_true, decide_true, decide_false, Bool.not_true, Bool.not_false, false_implies, true_implies, and_true, true_and, Bool.false_eq_true, Bool.true_eq_false, implies_true, Bool.not_not, Classical.not_not, go_sem, Int.reduceToNat, List.take_nil, Nat.zero_mul, Nat.reduceEqDiff, Nat.reduceAdd, Nat.reduceLT, Nat.reduceLeDiff, Nat.reduceMul, ↓reduceIte, reduceCtorEq]
        exact next _ _ (by rw [hsucc, if_neg (by simp)]) (by simp [look_cons])
      · simp only [onC_old e1, onC_old e3, onC_old ht, onC_old hn3, rdI hkd, rdI hrl, lenI, hcr, List.append_assoc, at_new, at_new0, set_new, set_new0, not_true_eq_false, not_false_eq_true, decide_true, decide_false, Bool.not_true, Bool.not_false, false_implies, true_implies, and_true, true_and, Bool.false_eq_true, Bool.true_eq_false, implies_true, Bool.not_not, Classical.not_not, go_sem, Int.reduceToNat, List.take_nil, Nat.zero_mul, Nat.reduceEqDiff, Nat.reduceAdd, Nat.reduceLT, Nat.reduceLeDiff, Nat.reduceMul, ↓reduceIte, reduceCtorEq]
        refine ⟨hlt, hkd, fun h1 => ⟨hlt, hkd, by omega, fun h2 => ⟨by omega, by omega, ?_⟩, fun h2 => ?_⟩, fun h1 => ?_⟩
        · exact next _ _ (by rw [hsucc, if_pos (by simp [h1, h2])]) (by simp [look_cons])
        · exact next _ _ (by rw [hsucc, if_neg (by simp; omega)]) (by simp [look_cons])
        · exact next _ _ (by rw [hsucc, if_neg (by simp; omega)]) (by simp [look_cons])
    · have ek : k = L.length := by omega
      subst ek
      obtain ⟨q, hq⟩ := Int.eq_ofNat_of_zero_le hTn.1
      have hqS : q < S.length := by omega
      have htd : tD S L n = S[q].D := by unfold tD; rw [Int.toNat_natCast, gL n hn, hq]; rw [gT_nat hqS]
      rw [htd] at hk
      simp only [onC_old hs, onC_old ha, onC_old hn1, onC_old hn4, rdJ0 hn, hq, Int.toNat_natCast, rdT1 hqS, lenJ, lenT, List.append_assoc, at_new, at_new0, set_new, set_new0, not_true_eq_false, not_false_eq_true, decide_true, decide_false, Bool.not_true, Bool.not_false, false_implies, true_implies, and_true, true_and, Bool.false_eq_true, Bool.true_eq_false, implies_true, Bool.not_not, Classical.not_not, go_sem, Int.reduceToNat, List.take_nil, Nat.zero_mul, Nat.reduceEqDiff, Nat.reduceAdd, Nat.reduceLT, Nat.reduceLeDiff, Nat.reduceMul, ↓reduceIte, reduceCtorEq]
      refine ⟨hn, by omega, by omega, by omega, fun hlow => ?_, fun hlow => ?_⟩
      · rw [if_pos hlow] at hk
        exact fin _ rfl hk _
      · rw [if_neg hlow] at hk
        refine impl_machine_best_ (hm.app _) (by omega) (keyD L) (startedB done) (fun i hi τ K hk => impl_machine_deadline_ ((hm.app _).app τ) i hi hk) (fun i hi _ τ K hk => impl_RunResources_1_1_ (b := σ.length) (cells_old (by simp [cellsOf]) τ) ((hm.app _).app τ) i hi hk) ?_
        simp only [List.append_assoc, at_new, at_new0, set_new, set_new0, not_true_eq_false, not_false_eq_true, decide_true, decide_false, Bool.not_true, Bool.not_false, false_implies, true_implies, and_true, true_and, Bool.false_eq_true, Bool.true_eq_false, implies_true, Bool.not_not, Classical.not_not, go_sem, Int.reduceToNat, List.take_nil, Nat.zero_mul, Nat.reduceEqDiff, Nat.reduceAdd, Nat.reduceLT, Nat.reduceLeDiff, Nat.reduceMul, ↓reduceIte, reduceCtorEq]
        exact fin _ rfl hk _
  · rw [if_pos (.inl (by omega))] at hk
    exact fin _ rfl hk _
def srpRun (S : List Task) (X : List Sec) (L : List Job) : List Int := (simU L (srpPick S X L) 120).run
def srpFin (S : List Task) (X : List Sec) (L : List Job) : List Int := (simU L (srpPick S X L) 120).fin

/-- What RunResources asks. -/
def resOk (S : List Task) (X : List Sec) (L : List Job) : Prop := secsOk S X ∧ jobsLegal S L

theorem impl_RunResources0 (S : List Task) (X : List Sec) (L : List Job) (hs : S.length ≤ 1048576) (hx : X.length ≤ 1048576) (hl : L.length ≤ 1048576) (c c' c3 : Nat) : CallWp Try.prog n_impl_RunResources [.sl 0 0 S.length c, .sl 1 0 X.length c', .sl 2 0 L.length c3] [.ro (encTask.row S), .ro (encSec.row X), .ro (encJob.row L)]
    (fun x σ' => ∃ τ, σ' = [.ro (encTask.row S), .ro (encSec.row X), .ro (encJob.row L)] ++ τ ∧ SchedP 3 (resOk S X L) (srpRun S X L) (srpFin S X L) L.length x τ) := by
  refine call_impl_RunResources (by simp) ?_
  simp only [c_impl_RunResources, go_sem, Int.reduceToNat, List.take_nil, Nat.zero_mul, Nat.reduceEqDiff, Nat.reduceAdd, Nat.reduceLT, Nat.reduceLeDiff, Nat.reduceMul, ↓reduceIte, reduceCtorEq]
  refine impl_SectionsValid_ (S := S) (X := X) (by omega) (by omega) (Rd.own rfl) (Rd.own rfl) ?_
  simp only [not_true_eq_false, not_false_eq_true, decide_true, decide_false, Bool.not_true, Bool.not_false, false_implies, true_implies, and_true, true_and, Bool.false_eq_true, Bool.true_eq_false, implies_true, Bool.not_not, Classical.not_not, go_sem, Int.reduceToNat, List.take_nil, Nat.zero_mul, Nat.reduceEqDiff, Nat.reduceAdd, Nat.reduceLT, Nat.reduceLeDiff, Nat.reduceMul, ↓reduceIte, reduceCtorEq]
  have no : ¬ resOk S X L → ∀ τ : List AB, τ.length = 4 → Fin 3 ([.ro (encTask.row S), .ro (encSec.row X), .ro (encJob.row L)] ++ τ) (.agg [.sn, .sn]) (fun x σ' => ∃ τ, σ' = .ro (encTask.row S) :: .ro (encSec.row X) :: .ro (encJob.row L) :: τ ∧ SchedP 3 (resOk S X L) (srpRun S X L) (srpFin S X L) L.length x τ) := fun hno τ _ => by
    refine Fin.drop (σ := [.ro (encTask.row S), .ro (encSec.row X), .ro (encJob.row L)]) (Closed.add (σ := []) (fun n B h => by simp at h) (by simp [Go.Abs.cellsIn, Go.Abs.Enc.row_bel])) (Nat.le_refl _) rfl ⟨[], rfl, .inl ⟨hno, rfl, rfl⟩⟩
  refine ⟨fun hX => impl_JobsLegal_ (S := S) (L := L) (by omega) (by omega) (Rd.own rfl) (Rd.own rfl) ?_, fun hX => no (fun h => hX h.1) [_, _, _, _] rfl⟩
  simp only [not_true_eq_false, not_false_eq_true, decide_true, decide_false, Bool.not_true, Bool.not_false, false_implies, true_implies, and_true, true_and, Bool.false_eq_true, Bool.true_eq_false, implies_true, Bool.not_not, Classical.not_not, go_sem, Int.reduceToNat, List.take_nil, Nat.zero_mul, Nat.reduceEqDiff, Nat.reduceAdd, Nat.reduceLT, Nat.reduceLeDiff, Nat.reduceMul, ↓reduceIte, reduceCtorEq]
  refine ⟨fun hno => no (fun h => hno h.2) [_, _, _, _] rfl, fun hL => ?_⟩
  have h60 := hL.2.1.1
  refine impl_ceilings_ hX (Rd.own rfl) (Rd.own rfl) fun cap => ?_
  simp only [not_true_eq_false, not_false_eq_true, decide_true, decide_false, Bool.not_true, Bool.not_false, false_implies, true_implies, and_true, true_and, Bool.false_eq_true, Bool.true_eq_false, implies_true, Bool.not_not, Classical.not_not, go_sem, Int.reduceToNat, List.take_nil, Nat.zero_mul, Nat.reduceEqDiff, Nat.reduceAdd, Nat.reduceLT, Nat.reduceLeDiff, Nat.reduceMul, ↓reduceIte, reduceCtorEq]
  refine impl_simulate_ (L := L) (srpPick S X L) rfl (by omega) (fun τ m done now hn' hm K hk => impl_RunResources_1_ (n1 := 2) (n2 := 1) (n3 := 7) (n4 := 0) hX hL (cells_old rfl τ) (cells_old rfl τ) (cells_old rfl τ) (cells_old rfl τ) (cells_old rfl τ) (cells_old rfl τ) (cells_old rfl τ) (cells_old rfl τ) hm hk) (fun now done => (srp_fair S X L).lt now done) fun c1 c2 => ?_
  simp only [not_true_eq_false, not_false_eq_true, decide_true, decide_false, Bool.not_true, Bool.not_false, false_implies, true_implies, and_true, true_and, Bool.false_eq_true, Bool.true_eq_false, implies_true, Bool.not_not, Classical.not_not, go_sem, Int.reduceToNat, List.take_nil, Nat.zero_mul, Nat.reduceEqDiff, Nat.reduceAdd, Nat.reduceLT, Nat.reduceLeDiff, Nat.reduceMul, ↓reduceIte, reduceCtorEq]
  exact Fin.pick [0, 1, 2, 9, 10] (.agg [.sl 3 0 120 c1, .sl 4 0 L.length c2]) _ ⟨_, rfl, .inr ⟨⟨hX, hL⟩, c1, c2, rfl, rfl⟩⟩

theorem impl_RunResources_ {S : List Task} {X : List Sec} {L : List Job} (hs : S.length ≤ 1048576) (hx : X.length ≤ 1048576) (hl : L.length ≤ 1048576) {v w u : AV} {σ : List AB} (h : Rd encTask σ v S) (h2 : Rd encSec σ w X) (h' : Rd encJob σ u L) {K : AV → List AB → Prop} (hn : ¬ resOk S X L → K (.agg [.sn, .sn]) σ)
    (hy : resOk S X L → ∀ c1 c2, K (.agg [.sl σ.length 0 120 c1, .sl (σ.length + 1) 0 L.length c2]) (σ ++ [.rw ty_int (encInt.row (srpRun S X L)) c1, .rw ty_int (encInt.row (srpFin S X L)) c2])) : CallWp Try.prog n_impl_RunResources [v, w, u] σ K := by
  refine call_news _ (rds_cons h.r (rds_cons h2.r (rds1 h'.r))) (fun c => [.sl 0 0 S.length (c 0), .sl 1 0 X.length (c 1), .sl 2 0 L.length (c 2)]) (SchedP 3 (resOk S X L) (srpRun S X L) (srpFin S X L) L.length) (fun c => impl_RunResources0 S X L hs hx hl (c 0) (c 1) (c 2)) (fun _ _ h => h.fr) (fun ν c h => ⟨h.1, h.2.1, h.2.2.1, trivial⟩) (fun _ => rfl) ?_
  rintro x τ (⟨hno, rfl, rfl⟩ | ⟨hyes, c1, c2, rfl, rfl⟩)
  · rw [List.append_nil]; exact hn hno
  · exact hy hyes c1 c2
end Go.Proofs.Ytnlciginmeebhaa
