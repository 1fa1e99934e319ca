import Derived.Test.YtmphblbpofnpaaaS4
import Derived.Test.YtmphblbpofnpaaaMM
namespace Go.Proofs.Ytmphblbpofnpaaa
open Go.Abs Go.Ds
set_option linter.unusedSimpArgs false
set_option linter.unusedVariables false
set_option maxRecDepth 20000
set_option maxHeartbeats 1000000
def MissP (N : Nat) (M : List Int) (x : AV) (τ : List AB) : Prop := (M = [] ∧ x = .sn ∧ τ = []) ∨ (M ≠ [] ∧ ∃ c, x = .sl N 0 M.length M.length ∧ τ = [.rw ty_int (encInt.row M) c])
theorem MissP.fr {N : Nat} {M : List Int} {x : AV} {τ : List AB} (h : MissP N M x τ) : τ.all plainRw = true ∧ freshA N x = true := by
  rcases h with ⟨_, rfl, rfl⟩ | ⟨_, c, rfl, rfl⟩
  · exact ⟨rfl, rfl⟩
  · simp [plainRw, encInt.row_flat, freshA, fresh1A, freshC]
def missUp (L : List Job) (fin : List Int) (k : Nat) : List Int := ((List.range k).filter (lateAt L fin)).map fun (i : Nat) => (i : Int)
theorem missUp_succ (L : List Job) (fin : List Int) (k : Nat) : missUp L fin (k + 1) = if lateAt L fin k = true then missUp L fin k ++ [(k : Int)] else missUp L fin k := by
  unfold missUp
  rw [List.range_succ, List.filter_append, List.filter_cons]
  cases lateAt L fin k with
  | true => simp
  | false => simp
theorem missUp_le (L : List Job) (fin : List Int) (k : Nat) : (missUp L fin k).length ≤ k := by
  unfold missUp
  rw [List.length_map]
  exact Nat.le_trans (List.length_filter_le _ _) (by simp)
theorem late_row {L : List Job} {fin : List Int} {k : Nat} (h : k < L.length) (hf : k < fin.length) : lateAt L fin k = decide (L[k].D ≤ 120 ∧ (fin[k] < 0 ∨ L[k].D < fin[k])) := by
  unfold lateAt
  rw [gI_eq (by simpa using hf), show L.getD k default = L[k] from by simp [List.getD_eq_getElem?_getD, h]]
  simp
theorem slices_Clip_int_nil {σ : List AB} {K : AV → List AB → Prop} (hk : K .sn σ) : CallWp Try.prog n_slices_Clip_int [.sn] σ K := by
  refine call_slices_Clip_int (by simp) ?_
  simp only [c_slices_Clip_int, go_sem, Int.reduceToNat, List.take_nil, Nat.zero_mul, Nat.reduceEqDiff, Nat.reduceAdd, Nat.reduceLT, Nat.reduceLeDiff, Nat.reduceMul, ↓reduceIte, reduceCtorEq]
  exact ⟨by omega, by omega, Fin.plain hk⟩
theorem slices_Clip_int_ {σ : List AB} {i n c : Nat} {b : AB} (hb : σ[i]? = some b) (hc : n ≤ c) {K : AV → List AB → Prop} (hk : K (.sl i 0 n n) σ) : CallWp Try.prog n_slices_Clip_int [.sl i 0 n c] σ K := by
  refine call_slices_Clip_int (by simp) ?_
  simp only [c_slices_Clip_int, go_sem, Int.reduceToNat, List.take_nil, Nat.zero_mul, Nat.reduceEqDiff, Nat.reduceAdd, Nat.reduceLT, Nat.reduceLeDiff, Nat.reduceMul, ↓reduceIte, reduceCtorEq]
  exact ⟨⟨.inl (Nat.le_refl _), hc⟩, Fin.plain hk⟩
def missSt (L : List Job) (fin : List Int) (c c' : Nat) : Nat × Option Nat → St
  | (k, none) => ⟨[(1, .sl 1 0 fin.length c'), (5, .sn), (13, .sl 0 0 L.length c), (14, .i .i64 L.length), (15, .i .i64 k)], [.ro (encJob.row L), .ro (encInt.row fin)]⟩
  | (k, some cap) => ⟨[(1, .sl 1 0 fin.length c'), (5, .sl 2 0 (missUp L fin k).length cap), (13, .sl 0 0 L.length c), (14, .i .i64 L.length), (15, .i .i64 k)], [.ro (encJob.row L), .ro (encInt.row fin), .rw ty_int (encInt.row (missUp L fin k)) cap]⟩
theorem impl_missed0 (L : List Job) (fin : List Int) (hl : L.length ≤ 1048576) (hf : fin.length = L.length) (c c' : Nat) : CallWp Try.prog n_impl_missed [.sl 0 0 L.length c, .sl 1 0 fin.length c'] [.ro (encJob.row L), .ro (encInt.row fin)]
    (fun x σ' => ∃ τ, σ' = [.ro (encJob.row L), .ro (encInt.row fin)] ++ τ ∧ MissP 2 (missedL L fin) x τ) := by
  refine call_impl_missed (by simp) ?_
  simp only [c_impl_missed, not_true_eq_false, not_false_eq_true, decide_true, decide_false, Bool.not_true, Bool.not_false, false_implies, true_implies, and_true, true_and, Bool.false_eq_true, Bool.true_eq_false, implies_true, Bool.not_not, Classical.not_not, go_sem, Int.reduceToNat, List.take_nil, Nat.zero_mul, Nat.reduceEqDiff, Nat.reduceAdd, Nat.reduceLT, Nat.reduceLeDiff, Nat.reduceMul, ↓reduceIte, reduceCtorEq]
  refine ⟨fun h => absurd (by rw [hf]) h, fun _ => ?_⟩
  refine loop_intro (missSt L fin c c') (fun i => match i with | (k, none) => k ≤ L.length ∧ missUp L fin k = [] | (k, some cap) => k ≤ L.length ∧ missUp L fin k ≠ [] ∧ (missUp L fin k).length ≤ cap) (fun i => L.length - i.1) (0, none) ⟨Nat.zero_le _, rfl⟩ (Wk.pick [0, 1]) ?_
  have step : ∀ k (h : k < L.length), (lateAt L fin k = true → missUp L fin (k + 1) = missUp L fin k ++ [(k : Int)]) ∧ (lateAt L fin k = false → missUp L fin (k + 1) = missUp L fin k) := fun k h => by
    rw [missUp_succ]
    exact ⟨fun e => if_pos e, fun e => if_neg (by simp [e])⟩
  rintro ⟨k, _ | cap⟩ hk
  · simp only at hk
    simp only [l0_impl_missed, missSt, not_true_eq_false, not_false_eq_true, decide_true, decide_false, Bool.not_true, Bool.not_false, false_implies, true_implies, and_true, true_and, Bool.false_eq_true, Bool.true_eq_false, implies_true, Bool.not_not, Classical.not_not, go_sem, Int.reduceToNat, List.take_nil, Nat.zero_mul, Nat.reduceEqDiff, Nat.reduceAdd, Nat.reduceLT, Nat.reduceLeDiff, Nat.reduceMul, ↓reduceIte, reduceCtorEq]
    refine ⟨fun hlt => ?_, fun hge => ?_⟩
    · have hkf : k < fin.length := by omega
      have hst := step k hlt
      have hlr := late_row hlt hkf
      simp only [winJ hlt, encJ, rdI hkf, lenI, lenJ, hf, not_true_eq_false, not_false_eq_true, decide_true, decide_false, Bool.not_true, Bool.not_false, false_implies, true_implies, and_true, true_and, Bool.false_eq_true, Bool.true_eq_false, implies_true, Bool.not_not, Classical.not_not, go_sem, Int.reduceToNat, List.take_nil, Nat.zero_mul, Nat.reduceEqDiff, Nat.reduceAdd, Nat.reduceLT, Nat.reduceLeDiff, Nat.reduceMul, ↓reduceIte, reduceCtorEq]
      cases hl : lateAt L fin k with
      | true =>
        have hd := of_decide_eq_true (hlr.symm.trans hl)
        have e1 : missUp L fin (k + 1) = [(k : Int)] := by rw [hst.1 hl, hk.2]; rfl
        repeat' first
          | omega
          | (exfalso; omega)
          | refine fun (cap : Nat) hcap => ⟨by omega, (k + 1, some cap), ⟨by simp only [e1]; exact ⟨by omega, by simp, hcap⟩, by simp only; omega⟩, ?_⟩
          | (simp only [e1]; exact Wk.pick [0, 1, 4])
          | refine ⟨?_, ?_⟩
          | intro _
      | false =>
        have hd := of_decide_eq_false (hlr.symm.trans hl)
        have e1 : missUp L fin (k + 1) = [] := by rw [hst.2 hl, hk.2]
        repeat' first
          | omega
          | (exfalso; omega)
          | refine ⟨by omega, (k + 1, none), ⟨by simp only [e1]; exact ⟨by omega, trivial⟩, by simp only; omega⟩, Wk.pick [0, 1]⟩
          | refine ⟨?_, ?_⟩
          | intro _
    · have ek : k = L.length := by omega
      subst ek
      refine slices_Clip_int_nil ?_
      simp only [go_sem, Int.reduceToNat, List.take_nil, Nat.zero_mul, Nat.reduceEqDiff, Nat.reduceAdd, Nat.reduceLT, Nat.reduceLeDiff, Nat.reduceMul, ↓reduceIte, reduceCtorEq]
      exact Fin.pick [0, 1] .sn [.ro (encJob.row L), .ro (encInt.row fin)] ⟨[], rfl, .inl ⟨hk.2, rfl, rfl⟩⟩
  · simp only at hk
    simp only [l0_impl_missed, missSt, not_true_eq_false, not_false_eq_true, decide_true, decide_false, Bool.not_true, Bool.not_false, false_implies, true_implies, and_true, true_and, Bool.false_eq_true, Bool.true_eq_false, implies_true, Bool.not_not, Classical.not_not, go_sem, Int.reduceToNat, List.take_nil, Nat.zero_mul, Nat.reduceEqDiff, Nat.reduceAdd, Nat.reduceLT, Nat.reduceLeDiff, Nat.reduceMul, ↓reduceIte, reduceCtorEq]
    have hle := missUp_le L fin k
    refine ⟨fun hlt => ?_, fun hge => ?_⟩
    · have hkf : k < fin.length := by omega
      have hst := step k hlt
      have hlr := late_row hlt hkf
      simp only [winJ hlt, encJ, rdI hkf, lenI, lenJ, hf, not_true_eq_false, not_false_eq_true, decide_true, decide_false, Bool.not_true, Bool.not_false, false_implies, true_implies, and_true, true_and, Bool.false_eq_true, Bool.true_eq_false, implies_true, Bool.not_not, Classical.not_not, go_sem, Int.reduceToNat, List.take_nil, Nat.zero_mul, Nat.reduceEqDiff, Nat.reduceAdd, Nat.reduceLT, Nat.reduceLeDiff, Nat.reduceMul, ↓reduceIte, reduceCtorEq]
      cases hl : lateAt L fin k with
      | true =>
        have hd := of_decide_eq_true (hlr.symm.trans hl)
        have e1 := hst.1 hl
        have e2 : (missUp L fin (k + 1)).length = (missUp L fin k).length + 1 := by rw [e1]; simp
        have e3 : List.take (missUp L fin k).length (encInt.row (missUp L fin k)) ++ [AV.i IntKind.i64 (k : Int)] = encInt.row (missUp L fin (k + 1)) := by
          rw [List.take_of_length_le (by rw [lenI]; omega), appI, e1]
        repeat' first
          | omega
          | (exfalso; omega)
          | refine fun (cap' : Nat) hcap => ⟨by omega, (k + 1, some cap'), ⟨by simp only [e2]; exact ⟨by omega, by rw [e1]; simp, hcap⟩, by simp only; omega⟩, ?_⟩
          | (simp only [e2, e3]; exact Wk.pick [0, 1, 5])
          | refine ⟨?_, ?_⟩
          | intro _
      | false =>
        have hd := of_decide_eq_false (hlr.symm.trans hl)
        have e1 := hst.2 hl
        repeat' first
          | omega
          | (exfalso; omega)
          | refine ⟨by omega, (k + 1, some cap), ⟨by simp only [e1]; exact ⟨by omega, hk.2.1, hk.2.2⟩, by simp only; omega⟩, by simp only [e1]; exact Wk.pick [0, 1, 2]⟩
          | refine ⟨?_, ?_⟩
          | intro _
    · have ek : k = L.length := by omega
      subst ek
      refine slices_Clip_int_ (b := .rw ty_int (encInt.row (missUp L fin L.length)) cap) rfl hk.2.2 ?_
      simp only [go_sem, Int.reduceToNat, List.take_nil, Nat.zero_mul, Nat.reduceEqDiff, Nat.reduceAdd, Nat.reduceLT, Nat.reduceLeDiff, Nat.reduceMul, ↓reduceIte, reduceCtorEq]
      exact Fin.pick [0, 1, 2] (.sl 2 0 (missUp L fin L.length).length (missUp L fin L.length).length) [.ro (encJob.row L), .ro (encInt.row fin), .rw ty_int (encInt.row (missUp L fin L.length)) cap] ⟨_, rfl, .inr ⟨hk.2.1, cap, rfl, rfl⟩⟩
section
variable {L : List Job} {fin : List Int} {v u x : AV} {σ : List AB} {K : AV → List AB → Prop}
theorem impl_missed_ (hl : L.length ≤ 1048576) (hf : fin.length = L.length) (h : Rd encJob σ v L) (h' : Rd encInt σ u fin) (hn : missedL L fin = [] → K .sn σ)
    (hy : missedL L fin ≠ [] → ∀ c, K (.sl σ.length 0 (missedL L fin).length (missedL L fin).length) (σ ++ [.rw ty_int (encInt.row (missedL L fin)) c])) : CallWp Try.prog n_impl_missed [v, u] σ K := by
  refine call_news _ (rds_cons h.r (rds1 h'.r)) (fun c => [.sl 0 0 L.length (c 0), .sl 1 0 fin.length (c 1)]) (MissP 2 (missedL L fin)) (fun c => impl_missed0 L fin hl hf (c 0) (c 1)) (fun _ _ h => h.fr) (fun ν c h => ⟨h.1, h.2.1, trivial⟩) (fun _ => rfl) ?_
  rintro x τ (⟨hno, rfl, rfl⟩ | ⟨hyes, c, rfl, rfl⟩)
  · rw [List.append_nil]; exact hn hno
  · exact hy hyes c
end
end Go.Proofs.Ytmphblbpofnpaaa
