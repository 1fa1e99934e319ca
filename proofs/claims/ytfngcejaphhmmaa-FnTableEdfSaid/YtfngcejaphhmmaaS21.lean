import Derived.Test.YtfngcejaphhmmaaS4
import Derived.Test.YtfngcejaphhmmaaM16
namespace Go.Proofs.Ytfngcejaphhmmaa
open Go.Abs Go.Ds
set_option linter.unusedSimpArgs false
set_option linter.unusedVariables false
set_option maxRecDepth 20000
set_option maxHeartbeats 1000000
theorem encT3 (t : Task) : encTask.f t = [.i .i64 t.C, .i .i64 t.D, .i .i64 t.P] := rfl
theorem slices_Clip_Job_nil {σ : List AB} {K : AV → List AB → Prop} (hk : K .sn σ) : CallWp Try.prog n_slices_Clip_impl_Job [.sn] σ K := by
  refine call_slices_Clip_impl_Job (by simp) ?_
  simp only [c_slices_Clip_impl_Job, go_sem, Int.reduceToNat, List.take_nil, Nat.zero_mul, Nat.reduceEqDiff, Nat.reduceAdd, Nat.reduceLT, Nat.reduceLeDiff, Nat.reduceMul, ↓reduceIte, reduceCtorEq]
  exact ⟨by omega, by omega, Fin.plain hk⟩
theorem slices_Clip_Job_ {σ : List AB} {i n c : Nat} (hc : n ≤ c) {K : AV → List AB → Prop} (hk : K (.sl i 0 n n) σ) : CallWp Try.prog n_slices_Clip_impl_Job [.sl i 0 n c] σ K := by
  refine call_slices_Clip_impl_Job (by simp) ?_
  simp only [c_slices_Clip_impl_Job, go_sem, Int.reduceToNat, List.take_nil, Nat.zero_mul, Nat.reduceEqDiff, Nat.reduceAdd, Nat.reduceLT, Nat.reduceLeDiff, Nat.reduceMul, ↓reduceIte, reduceCtorEq]
  exact ⟨⟨.inl (Nat.le_refl _), hc⟩, Fin.plain hk⟩
def SyncP (N : Nat) (ok : Prop) (M : List Job) (x : AV) (τ : List AB) : Prop := ((¬ ok ∨ M = []) ∧ x = .sn ∧ τ = []) ∨ (ok ∧ M ≠ [] ∧ ∃ c, x = .sl N 0 M.length M.length ∧ τ = [.rw ty_impl_Job (encJob.row M) c])
theorem SyncP.fr {N : Nat} {ok : Prop} {M : List Job} {x : AV} {τ : List AB} (h : SyncP N ok M x τ) : τ.all plainRw = true ∧ freshA N x = true := by
  rcases h with ⟨_, rfl, rfl⟩ | ⟨_, _, c, rfl, rfl⟩
  · exact ⟨rfl, rfl⟩
  · simp [plainRw, encJob.row_flat, freshA, fresh1A, freshC]
def syncV (M : List Job) : Option Nat → AV
  | none => .sn
  | some cap => .sl 1 0 M.length cap
def syncB (M : List Job) : Option Nat → List AB
  | none => []
  | some cap => [.rw ty_impl_Job (encJob.row M) (cap * 4)]
def syncJ (M : List Job) : Option Nat → Prop
  | none => M = []
  | some cap => M ≠ [] ∧ M.length ≤ cap
theorem impl_Synchronous0 (S : List Task) (lim : Int) (hs : S.length ≤ 1048576) (c : Nat) : CallWp Try.prog n_impl_Synchronous [.sl 0 0 S.length c, .i .i64 lim] [.ro (encTask.row S)]
    (fun x σ' => ∃ τ, σ' = [.ro (encTask.row S)] ++ τ ∧ SyncP 1 (setOk S ∧ 0 ≤ lim ∧ lim ≤ 120) (sync S lim lim.toNat) x τ) := by
  refine call_impl_Synchronous (by simp) ?_
  simp only [c_impl_Synchronous, go_sem, Int.reduceToNat, List.take_nil, Nat.zero_mul, Nat.reduceEqDiff, Nat.reduceAdd, Nat.reduceLT, Nat.reduceLeDiff, Nat.reduceMul, ↓reduceIte, reduceCtorEq]
  refine impl_SetValid_ (L := S) (by omega) (Rd.own rfl) ?_
  simp only [not_true_eq_false, not_false_eq_true, decide_true, decide_false, Bool.not_true, Bool.not_false, false_implies, true_implies, and_true, true_and, Bool.false_eq_true, Bool.true_eq_false, implies_true, Bool.not_not, Classical.not_not, go_sem, Int.reduceToNat, List.take_nil, Nat.zero_mul, Nat.reduceEqDiff, Nat.reduceAdd, Nat.reduceLT, Nat.reduceLeDiff, Nat.reduceMul, ↓reduceIte, reduceCtorEq]
  refine ⟨fun hS => impl_in_ _ _ _ ?_, fun hS => Fin.plain ⟨[], rfl, .inl ⟨.inl fun h => hS h.1, rfl, rfl⟩⟩⟩
  simp only [not_true_eq_false, not_false_eq_true, decide_true, decide_false, Bool.not_true, Bool.not_false, false_implies, true_implies, and_true, true_and, Bool.false_eq_true, Bool.true_eq_false, implies_true, Bool.not_not, Classical.not_not, go_sem, Int.reduceToNat, List.take_nil, Nat.zero_mul, Nat.reduceEqDiff, Nat.reduceAdd, Nat.reduceLT, Nat.reduceLeDiff, Nat.reduceMul, ↓reduceIte, reduceCtorEq]
  refine ⟨fun hl => Fin.plain ⟨[], rfl, .inl ⟨.inl fun h => hl h.2, rfl, rfl⟩⟩, fun hl => ?_⟩
  obtain ⟨N, rfl⟩ := Int.eq_ofNat_of_zero_le hl.1
  have h5 := hS.1
  simp only [Int.toNat_natCast]
  refine loop_intro (fun i : Nat × Option Nat => ⟨[(0, .sl 0 0 S.length c), (1, .i .i64 N), (5, syncV (sync S N i.1) i.2), (6, .i .i64 i.1)], .ro (encTask.row S) :: syncB (sync S N i.1) i.2⟩) (fun i => i.1 ≤ N ∧ syncJ (sync S N i.1) i.2) (fun i => N - i.1) (0, none) ⟨Nat.zero_le _, rfl⟩ (by show Wk 1 62 _ ⟨[(0, .sl 0 0 S.length c), (1, .i .i64 N), (5, .sn), (6, .i .i64 0)], [.ro (encTask.row S)]⟩; exact Wk.pick [0]) ?_
  rintro ⟨now, o⟩ ⟨hnow, hJ⟩
  simp only at hnow hJ
  have h60 := sync_60 S N now
  simp only [l1_impl_Synchronous, not_true_eq_false, not_false_eq_true, decide_true, decide_false, Bool.not_true, Bool.not_false, false_implies, true_implies, and_true, true_and, Bool.false_eq_true, Bool.true_eq_false, implies_true, Bool.not_not, Classical.not_not, go_sem, Int.reduceToNat, List.take_nil, Nat.zero_mul, Nat.reduceEqDiff, Nat.reduceAdd, Nat.reduceLT, Nat.reduceLeDiff, Nat.reduceMul, ↓reduceIte, reduceCtorEq]
  refine ⟨fun hlt => ?_, fun hge => ?_⟩
  · refine loop_intro (fun i : Nat × Option Nat => ⟨[(0, .sl 0 0 S.length c), (1, .i .i64 N), (5, syncV (syncIn S N now (sync S N now) i.1) i.2), (6, .i .i64 now), (22, .sl 0 0 S.length c), (23, .i .i64 S.length), (24, .i .i64 i.1)], .ro (encTask.row S) :: syncB (syncIn S N now (sync S N now) i.1) i.2⟩)
      (fun i => i.1 ≤ S.length ∧ syncJ (syncIn S N now (sync S N now) i.1) i.2) (fun i => S.length - i.1) (0, o) ⟨Nat.zero_le _, hJ⟩ (Wk.keep (by simp [look_cons, syncIn])) ?_
    rintro ⟨k, o2⟩ ⟨hk, hJ2⟩
    simp only at hk hJ2
    have h602 := syncIn_60 S N now _ h60 k
    have hsucc : ∀ M', syncIn S N now (sync S N now) k = M' → syncIn S N now (sync S N now) (k + 1) = if syncOk S N now k ∧ M'.length < 60 then M' ++ [syncJob S now k] else M' := fun M' e => by simp only [syncIn]; rw [e]
    have hend : k = S.length → sync S N (now + 1) = syncIn S N now (sync S N now) k := fun e => by rw [e]; rfl
    generalize syncIn S N now (sync S N now) k = M at *
    have hsucc := hsucc M rfl
    simp only [l0_impl_Synchronous, not_true_eq_false, not_false_eq_true, decide_true, decide_false, Bool.not_true, Bool.not_false, false_implies, true_implies, and_true, true_and, Bool.false_eq_true, Bool.true_eq_false, implies_true, Bool.not_not, Classical.not_not, go_sem, Int.reduceToNat, List.take_nil, Nat.zero_mul, Nat.reduceEqDiff, Nat.reduceAdd, Nat.reduceLT, Nat.reduceLeDiff, Nat.reduceMul, ↓reduceIte, reduceCtorEq]
    refine ⟨fun hkl => ?_, fun hkg => ?_⟩
    · have ht := hS.2 _ (List.getElem_mem hkl)
      unfold Task.ok at ht
      have gt : gT S (k : Int) = S[k] := gT_nat hkl
      have hP : ((now : Int)).tmod S[k].P = (now : Int) % S[k].P := Int.tmod_eq_emod_of_nonneg (by omega)
      have hok : syncOk S N now k ↔ (now : Int) % S[k].P = 0 ∧ (now : Int) + S[k].D ≤ N := by unfold syncOk; rw [gt]
      have hjob : syncJob S now k = ⟨k, now, (now : Int) + S[k].D, S[k].C⟩ := by unfold syncJob; rw [gt]
      rw [hjob] at hsucc
      cases o2 with
      | none =>
        simp only [syncJ] at hJ2
        subst hJ2
        simp only [syncV, syncB, winT hkl, encT3, lenT, hP, not_true_eq_false, not_false_eq_true, decide_true, decide_false, Bool.not_true, Bool.not_false, false_implies, true_implies, and_true, true_and, Bool.false_eq_true, Bool.true_eq_false, implies_true, Bool.not_not, Classical.not_not, go_sem, Int.reduceToNat, List.take_nil, Nat.zero_mul, Nat.reduceEqDiff, Nat.reduceAdd, Nat.reduceLT, Nat.reduceLeDiff, Nat.reduceMul, ↓reduceIte, reduceCtorEq]
        by_cases hc : syncOk S N now k
        · obtain ⟨g1, g2⟩ := hok.1 hc
          have e : syncIn S N now (sync S N now) (k + 1) = [⟨k, now, (now : Int) + S[k].D, S[k].C⟩] := by rw [hsucc, if_pos ⟨hc, by simp⟩]; rfl
          have e3 : encJob.row [⟨(k : Int), (now : Int), (now : Int) + S[k].D, S[k].C⟩] = [AV.i IntKind.i64 (k : Int), AV.i IntKind.i64 (now : Int), AV.i IntKind.i64 ((now : Int) + S[k].D), AV.i IntKind.i64 S[k].C] := rfl
          generalize (now : Int) % S[k].P = m at *
          repeat' first
            | omega
            | (exfalso; omega)
            | refine fun (cap : Nat) hcap => ⟨by omega, (k + 1, some cap), ⟨⟨by simp only; omega, by simp only [syncJ, e]; exact ⟨by simp, hcap⟩⟩, by simp only; omega⟩, ?_⟩
            | (simp only [e, e3]; exact Wk.pick [0, 3])
            | refine ⟨?_, ?_⟩
            | intro _
        · have e : syncIn S N now (sync S N now) (k + 1) = [] := by rw [hsucc, if_neg (fun h => hc h.1)]
          have hno := fun h => hc (hok.2 h)
          generalize (now : Int) % S[k].P = m at *
          repeat' first
            | omega
            | (exfalso; exact hno ⟨by assumption, by assumption⟩)
            | refine ⟨by omega, (k + 1, none), ⟨⟨by simp only; omega, by simp only [syncJ, e]⟩, by simp only; omega⟩, by simp only [e]; exact Wk.pick [0]⟩
            | refine ⟨?_, ?_⟩
            | intro _
      | some cap =>
        simp only [syncJ] at hJ2
        simp only [syncV, syncB, winT hkl, encT3, lenT, hP, lenJ, not_true_eq_false, not_false_eq_true, decide_true, decide_false, Bool.not_true, Bool.not_false, false_implies, true_implies, and_true, true_and, Bool.false_eq_true, Bool.true_eq_false, implies_true, Bool.not_not, Classical.not_not, go_sem, Int.reduceToNat, List.take_nil, Nat.zero_mul, Nat.reduceEqDiff, Nat.reduceAdd, Nat.reduceLT, Nat.reduceLeDiff, Nat.reduceMul, ↓reduceIte, reduceCtorEq]
        by_cases hc : syncOk S N now k ∧ M.length < 60
        · obtain ⟨g1, g2⟩ := hok.1 hc.1
          have g3 := hc.2
          have e : syncIn S N now (sync S N now) (k + 1) = M ++ [⟨k, now, (now : Int) + S[k].D, S[k].C⟩] := by rw [hsucc, if_pos hc]
          have e2 : (M ++ [(⟨(k : Int), (now : Int), (now : Int) + S[k].D, S[k].C⟩ : Job)]).length = M.length + 1 := by simp
          have e3 : List.take (M.length * 4) (encJob.row M) ++ [AV.i IntKind.i64 (k : Int), AV.i IntKind.i64 (now : Int), AV.i IntKind.i64 ((now : Int) + S[k].D), AV.i IntKind.i64 S[k].C] = encJob.row (M ++ [⟨k, now, (now : Int) + S[k].D, S[k].C⟩]) := by
            simp only [takeJ, List.take_length, appJ]
          generalize (now : Int) % S[k].P = m at *
          repeat' first
            | omega
            | (exfalso; omega)
            | refine fun (cap' : Nat) hcap => ⟨by omega, (k + 1, some cap'), ⟨⟨by simp only; omega, by simp only [syncJ, e, e2]; exact ⟨by simp, hcap⟩⟩, by simp only; omega⟩, ?_⟩
            | (simp only [e, e2, e3]; exact Wk.pick [0, 4])
            | refine ⟨?_, ?_⟩
            | intro _
        · have e : syncIn S N now (sync S N now) (k + 1) = M := by rw [hsucc, if_neg hc]
          have hno : ¬ (((now : Int) % S[k].P = 0 ∧ (now : Int) + S[k].D ≤ N) ∧ M.length < 60) := fun h => hc ⟨hok.2 h.1, h.2⟩
          generalize (now : Int) % S[k].P = m at *
          repeat' first
            | omega
            | (exfalso; omega)
            | refine ⟨by omega, (k + 1, some cap), ⟨⟨by simp only; omega, by simp only [syncJ, e]; exact hJ2⟩, by simp only; omega⟩, by simp only [e]; exact Wk.pick [0, 1]⟩
            | refine ⟨?_, ?_⟩
            | intro _
    · have hend := hend (by omega)
      refine ⟨by omega, (now + 1, o2), ⟨⟨by simp only; omega, by simp only [hend]; exact hJ2⟩, by simp only; omega⟩, ?_⟩
      simp only [hend]
      exact Wk.keep (by simp [look_cons])
  · have en : now = N := by omega
    subst en
    cases o with
    | none =>
      simp only [syncJ] at hJ
      simp only [syncV, syncB, not_true_eq_false, not_false_eq_true, decide_true, decide_false, Bool.not_true, Bool.not_false, false_implies, true_implies, and_true, true_and, Bool.false_eq_true, Bool.true_eq_false, implies_true, Bool.not_not, Classical.not_not, go_sem, Int.reduceToNat, List.take_nil, Nat.zero_mul, Nat.reduceEqDiff, Nat.reduceAdd, Nat.reduceLT, Nat.reduceLeDiff, Nat.reduceMul, ↓reduceIte, reduceCtorEq]
      refine slices_Clip_Job_nil ?_
      simp only [go_sem, Int.reduceToNat, List.take_nil, Nat.zero_mul, Nat.reduceEqDiff, Nat.reduceAdd, Nat.reduceLT, Nat.reduceLeDiff, Nat.reduceMul, ↓reduceIte, reduceCtorEq]
      exact Fin.plain ⟨[], rfl, .inl ⟨.inr hJ, rfl, rfl⟩⟩
    | some cap =>
      simp only [syncJ] at hJ
      simp only [syncV, syncB, not_true_eq_false, not_false_eq_true, decide_true, decide_false, Bool.not_true, Bool.not_false, false_implies, true_implies, and_true, true_and, Bool.false_eq_true, Bool.true_eq_false, implies_true, Bool.not_not, Classical.not_not, go_sem, Int.reduceToNat, List.take_nil, Nat.zero_mul, Nat.reduceEqDiff, Nat.reduceAdd, Nat.reduceLT, Nat.reduceLeDiff, Nat.reduceMul, ↓reduceIte, reduceCtorEq]
      refine slices_Clip_Job_ hJ.2 ?_
      simp only [go_sem, Int.reduceToNat, List.take_nil, Nat.zero_mul, Nat.reduceEqDiff, Nat.reduceAdd, Nat.reduceLT, Nat.reduceLeDiff, Nat.reduceMul, ↓reduceIte, reduceCtorEq]
      exact Fin.plain ⟨_, rfl, .inr ⟨by first | exact ⟨hS, by omega⟩ | exact ⟨hS, hl⟩, hJ.1, _, rfl, rfl⟩⟩
theorem impl_Synchronous_ {S : List Task} {lim : Int} (hs : S.length ≤ 1048576) {v : AV} {σ : List AB} (h : Rd encTask σ v S) {K : AV → List AB → Prop} (hn : (¬ (setOk S ∧ 0 ≤ lim ∧ lim ≤ 120) ∨ sync S lim lim.toNat = []) → K .sn σ)
    (hy : setOk S → sync S lim lim.toNat ≠ [] → ∀ c, K (.sl σ.length 0 (sync S lim lim.toNat).length (sync S lim lim.toNat).length) (σ ++ [.rw ty_impl_Job (encJob.row (sync S lim lim.toNat)) c])) : CallWp Try.prog n_impl_Synchronous [v, .i .i64 lim] σ K := by
  refine call_news _ (rds1 h.r) (fun c => [.sl 0 0 S.length (c 0), .i .i64 lim]) (SyncP 1 (setOk S ∧ 0 ≤ lim ∧ lim ≤ 120) (sync S lim lim.toNat)) (fun c => impl_Synchronous0 S lim hs (c 0)) (fun _ _ h => h.fr) (fun ν c h => ⟨h.1, .inl rfl, trivial⟩) (fun _ => rfl) ?_
  rintro x τ (⟨hno, rfl, rfl⟩ | ⟨h1, h2, c, rfl, rfl⟩)
  · rw [List.append_nil]; exact hn hno
  · exact hy h1.1 h2 c
end Go.Proofs.Ytfngcejaphhmmaa
