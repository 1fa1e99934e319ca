import Derived.Test.YtgnlibnnpipbhaaS93
namespace Go.Proofs.Ytgnlibnnpipbhaa
open Go.Abs Go.Ds
set_option linter.unusedSimpArgs false
set_option linter.unusedVariables false
set_option maxRecDepth 20000
set_option maxHeartbeats 2000000
theorem aud_succ (S : List Task) (l : Nat) (L : List Int) : aud S (l + 1) L = if idxF (fun i => decide (passT S i (L.filter fun k => decide (k ≠ i)))) L < 0 then false else aud S l (L.eraseIdx (idxF (fun i => decide (passT S i (L.filter fun k => decide (k ≠ i)))) L).toNat) := rfl
def audB (S : List Task) : Prop := setOk S ∧ aud S S.length (idxs S.length) = true
def ApP (N : Nat) (S : List Task) (x : AV) (τ : List AB) : Prop := (¬ audB S ∧ x = .tup [.sn, .b false] ∧ τ = []) ∨ (audB S ∧ ∃ (O : List Int) (len cap cc : Nat), x = .tup [.sl N 0 len cap, .b true] ∧ τ = [.rw ty_int (encInt.row O) cc])
theorem ApP.fr {N : Nat} {S : List Task} {x : AV} {τ : List AB} (h : ApP N S x τ) : τ.all plainRw = true ∧ freshA N x = true := by
  rcases h with ⟨_, rfl, rfl⟩ | ⟨_, O, len, cap, cc, rfl, rfl⟩
  · exact ⟨rfl, rfl⟩
  · simp [plainRw, encInt.row_flat, freshA, fresh1A, freshC, flat]
def apH (S : List Task) (c r : Nat) (W : List Int) (len : Nat) (O : List Int) : List AB := [.ro (encTask.row S), .rw ty_sl_impl_Task [.sl 0 0 S.length c] r, .rw ty_int (encInt.row W) S.length, .rw ty_sl_int [.sl 2 0 len S.length] 1, .rw ty_int (encInt.row O) S.length]
theorem impl_AssignPriorities0 (S : List Task) (hs : S.length ≤ 1048576) (c : Nat) : CallWp Try.prog n_impl_AssignPriorities [.sl 0 0 S.length c] [.ro (encTask.row S)] (fun x σ' => ∃ τ, σ' = [.ro (encTask.row S)] ++ τ ∧ ApP 1 S x τ) := by
  refine call_impl_AssignPriorities (by simp) ?_
  simp only [c_impl_AssignPriorities, not_true_eq_false, not_false_eq_true, decide_true, decide_false, Bool.not_true, Bool.not_false, false_implies, true_implies, and_true, true_and, Bool.false_eq_true, Bool.true_eq_false, implies_true, Bool.not_not, Classical.not_not, go_sem, Int.reduceToNat, List.take_nil, Nat.zero_mul, Nat.reduceEqDiff, Nat.reduceAdd, Nat.reduceLT, Nat.reduceLeDiff, Nat.reduceMul, ↓reduceIte, reduceCtorEq]
  refine impl_SetValid_ (L := S) (by omega) (Rd.own rfl) ?_
  simp only [not_true_eq_false, not_false_eq_true, decide_true, decide_false, Bool.not_true, Bool.not_false, false_implies, true_implies, and_true, true_and, Bool.false_eq_true, Bool.true_eq_false, implies_true, Bool.not_not, Classical.not_not, go_sem, Int.reduceToNat, List.take_nil, Nat.zero_mul, Nat.reduceEqDiff, Nat.reduceAdd, Nat.reduceLT, Nat.reduceLeDiff, Nat.reduceMul, ↓reduceIte, reduceCtorEq]
  refine ⟨fun hS => ?_, fun hS => ?_⟩
  · exact Fin.pick [0] (.tup [.sn, .b false]) [.ro (encTask.row S)] ⟨[], rfl, .inl ⟨fun h => hS h.1, rfl, rfl⟩⟩
  have h5 := hS.1
  have erep : rep S.length [AV.i .i64 0] = encInt.row (List.replicate S.length 0) := encInt.rep 0 _
  refine impl_indices0 S.length (by omega) ?_
  simp only [erep, not_true_eq_false, not_false_eq_true, decide_true, decide_false, Bool.not_true, Bool.not_false, false_implies, true_implies, and_true, true_and, Bool.false_eq_true, Bool.true_eq_false, implies_true, Bool.not_not, Classical.not_not, go_sem, Int.reduceToNat, List.take_nil, Nat.zero_mul, Nat.reduceEqDiff, Nat.reduceAdd, Nat.reduceLT, Nat.reduceLeDiff, Nat.reduceMul, ↓reduceIte, reduceCtorEq]
  refine ⟨by omega, by omega, ?_⟩
  refine loop_intro (fun s : Nat × List Int × List Int => ⟨[(1, .p 1 0), (4, .p 3 0), (5, .sl 4 0 S.length S.length), (6, .i .i64 ((s.1 : Int) - 1))], apH S c 1 s.2.1 s.1 s.2.2⟩)
    (fun s => s.1 ≤ S.length ∧ s.2.1.length = S.length ∧ s.2.2.length = S.length ∧ (s.2.1.take s.1).Nodup ∧ inS S (s.2.1.take s.1) ∧ aud S S.length (idxs S.length) = aud S s.1 (s.2.1.take s.1)) (fun s => s.1) (S.length, idxs S.length, List.replicate S.length 0) ?_ ?_ ?_
  · have hi := idxs_ok S.length
    have hl := idxs_length S.length
    refine ⟨Nat.le_refl _, hl, by simp, ?_, ?_, ?_⟩ <;> simp only [List.take_of_length_le (Nat.le_of_eq hl)]
    · exact hi.1
    · exact hi.2
  · exact Wk.keep (by simp [look_cons])
  rintro ⟨len, W, O⟩ ⟨j1, j2, j3, j4, j5, j6⟩
  simp only at j1 j2 j3 j4 j5 j6
  unfold apH
  simp only [l0_impl_AssignPriorities, not_true_eq_false, not_false_eq_true, decide_true, decide_false, Bool.not_true, Bool.not_false, false_implies, true_implies, and_true, true_and, Bool.false_eq_true, Bool.true_eq_false, implies_true, Bool.not_not, Classical.not_not, go_sem, Int.reduceToNat, List.take_nil, Nat.zero_mul, Nat.reduceEqDiff, Nat.reduceAdd, Nat.reduceLT, Nat.reduceLeDiff, Nat.reduceMul, ↓reduceIte, reduceCtorEq]
  refine ⟨fun hge => ?_, fun hlt => ?_⟩
  · have hl0 : 0 < len := by omega
    have hlen : (W.take len).length = len := by rw [List.length_take]; omega
    refine slices_IndexFunc_w (W := W) (by omega) (by omega) rfl (fun i => decide (passT S i ((W.take len).filter fun k => decide (k ≠ i)))) (fun t ht K hk => impl_AP1_ (cap := S.length) (cS := c) hS (by omega) hl0 j4 j5 (j5 t ht) rfl rfl rfl rfl hk) ?_
    obtain ⟨e, he⟩ : ∃ e, e = idxF (fun i => decide (passT S i ((W.take len).filter fun k => decide (k ≠ i)))) (W.take len) := ⟨_, rfl⟩
    rw [← he]
    simp only [not_true_eq_false, not_false_eq_true, decide_true, decide_false, Bool.not_true, Bool.not_false, false_implies, true_implies, and_true, true_and, Bool.false_eq_true, Bool.true_eq_false, implies_true, Bool.not_not, Classical.not_not, go_sem, Int.reduceToNat, List.take_nil, Nat.zero_mul, Nat.reduceEqDiff, Nat.reduceAdd, Nat.reduceLT, Nat.reduceLeDiff, Nat.reduceMul, ↓reduceIte, reduceCtorEq]
    obtain ⟨l, rfl⟩ : ∃ l, len = l + 1 := ⟨len - 1, by omega⟩
    rw [aud_succ] at j6
    rw [← he] at j6
    refine ⟨fun hneg => ?_, fun hpos => ?_⟩
    · rw [if_pos hneg] at j6
      have hno : ¬ audB S := fun h => absurd (j6.symm.trans h.2) (by simp)
      exact Fin.pick [0] (.tup [.sn, .b false]) [.ro (encTask.row S)] ⟨[], rfl, .inl ⟨hno, rfl, rfl⟩⟩
    · rw [if_neg hpos] at j6
      obtain ⟨k, rfl⟩ : ∃ k : Nat, e = k := ⟨e.toNat, by omega⟩
      obtain ⟨hkl, _, _⟩ := idxF_take he.symm
      rw [hlen] at hkl
      have hkW : k < W.length := by omega
      have hk1 : ((k : Nat) : Int).toNat = k := by omega
      have hl1 : (((l + 1 : Nat) : Int) - 1).toNat = l := by omega
      have hlO : l < O.length := by omega
      rw [hk1] at j6
      simp only [hl1, rdI hkW, splI hlO, lenI, not_true_eq_false, not_false_eq_true, decide_true, decide_false, Bool.not_true, Bool.not_false, false_implies, true_implies, and_true, true_and, Bool.false_eq_true, Bool.true_eq_false, implies_true, Bool.not_not, Classical.not_not, go_sem, Int.reduceToNat, List.take_nil, Nat.zero_mul, Nat.reduceEqDiff, Nat.reduceAdd, Nat.reduceLT, Nat.reduceLeDiff, Nat.reduceMul, ↓reduceIte, reduceCtorEq]
      refine ⟨by omega, by omega, ⟨by omega, by omega⟩, by omega, ⟨by omega, by omega⟩, slices_Delete_ (W := W) (len := l + 1) hkl (by omega) j2 (by omega) rfl fun W' hW' hWt => ?_⟩
      rw [Nat.add_sub_cancel] at hWt
      simp only [Nat.add_sub_cancel, not_true_eq_false, not_false_eq_true, decide_true, decide_false, Bool.not_true, Bool.not_false, false_implies, true_implies, and_true, true_and, Bool.false_eq_true, Bool.true_eq_false, implies_true, Bool.not_not, Classical.not_not, go_sem, Int.reduceToNat, List.take_nil, Nat.zero_mul, Nat.reduceEqDiff, Nat.reduceAdd, Nat.reduceLT, Nat.reduceLeDiff, Nat.reduceMul, ↓reduceIte, reduceCtorEq]
      have hT : (W.take (l + 1)).eraseIdx k = W'.take l := hWt.symm
      rw [hT] at j6
      refine ⟨by omega, (l, W', O.set l W[k]), ⟨⟨by simp only; omega, hW', by simp only [List.length_set]; exact j3, ?_, ?_, j6⟩, by simp only; omega⟩, ?_⟩
      · show (W'.take l).Nodup
        rw [← hT]; exact j4.sublist (List.eraseIdx_sublist ..)
      · show inS S (W'.take l)
        rw [← hT]; exact fun x hx => j5 x (List.mem_of_mem_eraseIdx hx)
      · exact Wk.keep (by simp [look_cons])
  · have e0 : len = 0 := by omega
    subst e0
    have hyes : audB S := ⟨hS, by rw [j6]; rfl⟩
    exact Fin.pick [0, 4] (.tup [.sl 1 0 S.length S.length, .b true]) [.ro (encTask.row S), .rw ty_int (encInt.row O) S.length] ⟨_, rfl, .inr ⟨hyes, O, S.length, S.length, S.length, rfl, rfl⟩⟩
theorem impl_AssignPriorities_ {S : List Task} (hs : S.length ≤ 1048576) {v : AV} {σ : List AB} (h : Rd encTask σ v S) {K : AV → List AB → Prop} (hn : ¬ audB S → K (.tup [.sn, .b false]) σ) (hy : ∀ O len cap cc, audB S → K (.tup [.sl σ.length 0 len cap, .b true]) (σ ++ [.rw ty_int (encInt.row O) cc])) : CallWp Try.prog n_impl_AssignPriorities [v] σ K := by
  refine call_news _ (rds1 h.r) (fun c => [.sl 0 0 S.length (c 0)]) (ApP 1 S) (fun c => impl_AssignPriorities0 S hs (c 0)) (fun _ _ h => h.fr) (fun ν c h => ⟨h.1, trivial⟩) (fun _ => rfl) ?_
  rintro x τ (⟨hno, rfl, rfl⟩ | ⟨hyes, O, len, cap, cc, rfl, rfl⟩)
  · rw [List.append_nil]; exact hn hno
  · exact hy O len cap cc hyes
end Go.Proofs.Ytgnlibnnpipbhaa
