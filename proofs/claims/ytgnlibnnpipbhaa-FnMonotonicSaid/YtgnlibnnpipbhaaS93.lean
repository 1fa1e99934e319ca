import Derived.Test.YtgnlibnnpipbhaaS92
import Derived.Test.YtgnlibnnpipbhaaM46
namespace Go.Proofs.Ytgnlibnnpipbhaa
open Go.Abs Go.Ds
set_option linter.unusedSimpArgs false
set_option linter.unusedVariables false
set_option maxRecDepth 20000
set_option maxHeartbeats 2000000
theorem impl_AP11_ {σ : List AB} {q : Nat} {x i : Int} (hq : cellsOf σ q = some [.i .i64 i]) {K : AV → List AB → Prop} (hk : K (.b (decide (x = i))) σ) : CallWp Try.prog n_impl_AssignPriorities_1_1 [.i .i64 x, .p q 0] σ K := by
  refine call_impl_AssignPriorities_1_1 (by simp) ?_
  simp only [c_impl_AssignPriorities_1_1, onC_of hq, not_true_eq_false, not_false_eq_true, decide_true, decide_false, Bool.not_true, Bool.not_false, false_implies, true_implies, and_true, true_and, Bool.false_eq_true, Bool.true_eq_false, implies_true, Bool.not_not, Classical.not_not, go_sem, Int.reduceToNat, List.take_nil, Nat.zero_mul, Nat.reduceEqDiff, Nat.reduceAdd, Nat.reduceLT, Nat.reduceLeDiff, Nat.reduceMul, ↓reduceIte, reduceCtorEq]
  exact Fin.plain hk
theorem slices_CloneI_ {σ : List AB} {n o len cap : Nat} {cs : List AV} (h : cellsOf σ n = some cs) (hl : o + len ≤ cs.length) (h0 : 0 < len) (h1 : len ≤ 1000000) {K : AV → List AB → Prop}
    (hk : ∀ c, len ≤ c → K (.sl (σ.length + 1) 0 len c) ((σ ++ [.rw ty_int [] 0]) ++ [.rw ty_int (win cs o len) c])) : CallWp Try.prog n_slices_Clone_int [.sl n o len cap] σ K := by
  refine call_slices_Clone_int (by simp) ?_
  simp only [c_slices_Clone_int, at_new0, onC_old h, not_true_eq_false, not_false_eq_true, decide_true, decide_false, Bool.not_true, Bool.not_false, false_implies, true_implies, and_true, true_and, Bool.false_eq_true, Bool.true_eq_false, implies_true, Bool.not_not, Classical.not_not, go_sem, Int.reduceToNat, List.take_nil, Nat.zero_mul, Nat.reduceEqDiff, Nat.reduceAdd, Nat.reduceLT, Nat.reduceLeDiff, Nat.reduceMul, ↓reduceIte, reduceCtorEq]
  exact ⟨fun h2 => absurd h2 (by omega), ⟨by omega, by omega⟩, fun h2 => absurd h2 (by omega), fun _ c hc => Fin.plain (hk c hc)⟩
def delH (σ : List AB) (i : Int) (c : Nat) (X : List Int) : List AB := σ ++ [.rw ty_int [.i .i64 i] 1, .rw ty_int [] 0, .rw ty_int (encInt.row X) c]
theorem delH_q (σ : List AB) (i : Int) (c : Nat) (X : List Int) : cellsOf (delH σ i c X) σ.length = some [.i .i64 i] := by simp [delH, cellsOf]
theorem delH_n (σ : List AB) (i : Int) (c : Nat) (X : List Int) : (delH σ i c X)[σ.length + 2]? = some (.rw ty_int (encInt.row X) c) := by simp [delH]
theorem delH_c (σ : List AB) (i : Int) (c : Nat) (X : List Int) : cellsOf (delH σ i c X) (σ.length + 2) = some (encInt.row X) := by simp [cellsOf, delH_n]
theorem delH_set (σ : List AB) (i : Int) (c : Nat) (X Y : List Int) : (delH σ i c X).set (σ.length + 2) (.rw ty_int (encInt.row Y) c) = delH σ i c Y := by
  unfold delH
  rw [set_new]; rfl
theorem slices_DeleteFunc_ {σ : List AB} {i : Int} {c : Nat} {L : List Int} (hc : L.length ≤ c) (hs : L.length ≤ 1000000) {K : AV → List AB → Prop}
    (hk : ∀ X : List Int, X.take (L.filter fun k => decide (k ≠ i)).length = (L.filter fun k => decide (k ≠ i)) → X.length = L.length → K (.sl (σ.length + 2) 0 (L.filter fun k => decide (k ≠ i)).length c) (delH σ i c X)) :
    CallWp Try.prog n_slices_DeleteFunc_int [.sl (σ.length + 2) 0 L.length c, .fn n_impl_AssignPriorities_1_1 [] [(σ.length, 0)]] (delH σ i c L) K := by
  refine call_slices_DeleteFunc_int (by simp) ?_
  simp only [c_slices_DeleteFunc_int, not_true_eq_false, not_false_eq_true, decide_true, decide_false, Bool.not_true, Bool.not_false, false_implies, true_implies, and_true, true_and, Bool.false_eq_true, Bool.true_eq_false, implies_true, Bool.not_not, Classical.not_not, go_sem, Int.reduceToNat, List.take_nil, Nat.zero_mul, Nat.reduceEqDiff, Nat.reduceAdd, Nat.reduceLT, Nat.reduceLeDiff, Nat.reduceMul, ↓reduceIte, reduceCtorEq]
  refine slices_IndexFunc_w (Nat.le_refl _) hs (delH_c σ i c L) (fun x => decide (x = i)) (fun t _ K hk => impl_AP11_ (delH_q σ i c L) hk) ?_
  rw [List.take_length]
  obtain ⟨e, he⟩ : ∃ e, e = idxF (fun x => decide (x = i)) L := ⟨_, rfl⟩
  rw [← he]
  simp only [not_true_eq_false, not_false_eq_true, decide_true, decide_false, Bool.not_true, Bool.not_false, false_implies, true_implies, and_true, true_and, Bool.false_eq_true, Bool.true_eq_false, implies_true, Bool.not_not, Classical.not_not, go_sem, Int.reduceToNat, List.take_nil, Nat.zero_mul, Nat.reduceEqDiff, Nat.reduceAdd, Nat.reduceLT, Nat.reduceLeDiff, Nat.reduceMul, ↓reduceIte, reduceCtorEq]
  refine ⟨fun hm => ?_, fun hm => ?_⟩
  · have hf : (L.filter fun k => decide (k ≠ i)) = L := List.filter_eq_self.2 fun x hx => by
      have := idxF_neg (he.symm.trans hm) x hx
      simpa using this
    rw [hf] at hk
    exact Fin.plain (hk L (List.take_length ..) rfl)
  · obtain ⟨k, rfl⟩ : ∃ k : Nat, e = k := ⟨e.toNat, by rcases idxF_range (p := fun x => decide (x = i)) (L := L) with h | h <;> omega⟩
    obtain ⟨hkl, hki, hlow⟩ := idxF_take he.symm
    have hki' : L[k] = i := by simpa using hki
    have f0 : (L.take k).filter (fun k => decide (k ≠ i)) = L.take k := List.filter_eq_self.2 fun x hx => by simpa using hlow x hx
    have f1 : (L.take (k + 1)).filter (fun k => decide (k ≠ i)) = L.take k := by rw [take_snoc hkl, List.filter_append, f0]; simp [hki']
    refine ⟨by omega, loop_intro (fun s : Nat × Nat × List Int => ⟨[(0, .sl (σ.length + 2) 0 L.length c), (1, .fn n_impl_AssignPriorities_1_1 [] [(σ.length, 0)]), (5, .i .i64 s.1), (6, .i .i64 s.2.1)], delH σ i c s.2.2⟩)
      (fun s => s.2.2.length = L.length ∧ s.2.1 ≤ L.length ∧ s.1 < s.2.1 ∧ s.2.2.take s.1 = (L.take s.2.1).filter (fun k => decide (k ≠ i)) ∧ s.1 = ((L.take s.2.1).filter fun k => decide (k ≠ i)).length ∧ s.2.2.drop s.2.1 = L.drop s.2.1) (fun s => L.length - s.2.1) (k, k + 1, L)
      ⟨rfl, by simp only; omega, by simp only; omega, f1.symm, by simp only [f1, List.length_take]; omega, rfl⟩ (Wk.keep (by simp [look_cons])) ?_⟩
    rintro ⟨p, j, X⟩ ⟨j1, j2, j3, j4, j5, j6⟩
    simp only at j1 j2 j3 j4 j5 j6
    simp only [l0_slices_DeleteFunc_int, not_true_eq_false, not_false_eq_true, decide_true, decide_false, Bool.not_true, Bool.not_false, false_implies, true_implies, and_true, true_and, Bool.false_eq_true, Bool.true_eq_false, implies_true, Bool.not_not, Classical.not_not, go_sem, Int.reduceToNat, List.take_nil, Nat.zero_mul, Nat.reduceEqDiff, Nat.reduceAdd, Nat.reduceLT, Nat.reduceLeDiff, Nat.reduceMul, ↓reduceIte, reduceCtorEq]
    refine ⟨fun hlt => ?_, fun hge => ?_⟩
    · have hjX : j < X.length := by omega
      have hpX : p < X.length := by omega
      have hXj : X[j] = L[j] := by
        have h1 := List.drop_eq_getElem_cons hjX
        have h2 := List.drop_eq_getElem_cons (l := L) hlt
        rw [j6, h2] at h1
        exact (List.cons.inj h1).1.symm
      simp only [onC_of (delH_c σ i c X), rdI hjX, lenI, not_true_eq_false, not_false_eq_true, decide_true, decide_false, Bool.not_true, Bool.not_false, false_implies, true_implies, and_true, true_and, Bool.false_eq_true, Bool.true_eq_false, implies_true, Bool.not_not, Classical.not_not, go_sem, Int.reduceToNat, List.take_nil, Nat.zero_mul, Nat.reduceEqDiff, Nat.reduceAdd, Nat.reduceLT, Nat.reduceLeDiff, Nat.reduceMul, ↓reduceIte, reduceCtorEq]
      refine ⟨hlt, hjX, impl_AP11_ (delH_q σ i c X) ?_⟩
      simp only [delH_n, delH_set, onW_rw, splI hpX, lenI, not_true_eq_false, not_false_eq_true, decide_true, decide_false, Bool.not_true, Bool.not_false, false_implies, true_implies, and_true, true_and, Bool.false_eq_true, Bool.true_eq_false, implies_true, Bool.not_not, Classical.not_not, go_sem, Int.reduceToNat, List.take_nil, Nat.zero_mul, Nat.reduceEqDiff, Nat.reduceAdd, Nat.reduceLT, Nat.reduceLeDiff, Nat.reduceMul, ↓reduceIte, reduceCtorEq]
      have fs : (L.take (j + 1)).filter (fun k => decide (k ≠ i)) = (L.take j).filter (fun k => decide (k ≠ i)) ++ [L[j]].filter (fun k => decide (k ≠ i)) := by rw [take_snoc hlt, List.filter_append]
      refine ⟨fun hne => ?_, fun heq => ?_⟩
      · have hne' : L[j] ≠ i := by rw [← hXj]; exact hne
        have f2 : [L[j]].filter (fun k => decide (k ≠ i)) = [L[j]] := by simp [hne']
        refine ⟨by omega, by omega, by omega, by omega, (p + 1, j + 1, X.set p X[j]), ⟨⟨by simp only [List.length_set]; exact j1, by simp only; omega, by simp only; omega, ?_, ?_, ?_⟩, by simp only; omega⟩, Wk.keep (by simp [look_cons])⟩
        · show (X.set p X[j]).take (p + 1) = (L.take (j + 1)).filter _
          rw [fs, f2, take_snoc (by rw [List.length_set]; exact hpX), List.getElem_set_self, hXj, List.take_set_of_le (Nat.le_refl _), j4]
        · show p + 1 = ((L.take (j + 1)).filter _).length
          rw [fs, f2, List.length_append, ← j5]; rfl
        · show (X.set p X[j]).drop (j + 1) = L.drop (j + 1)
          rw [List.drop_set_of_lt (by omega)]
          have := congrArg (List.drop 1) j6
          rwa [List.drop_drop, List.drop_drop] at this
      · have heq' : L[j] = i := by rw [← hXj]; exact heq
        have f2 : [L[j]].filter (fun k => decide (k ≠ i)) = [] := by simp [heq']
        refine ⟨by omega, (p, j + 1, X), ⟨⟨j1, by simp only; omega, by simp only; omega, ?_, ?_, ?_⟩, by simp only; omega⟩, Wk.keep (by simp [look_cons])⟩
        · show X.take p = (L.take (j + 1)).filter _
          rw [fs, f2, List.append_nil, j4]
        · show p = ((L.take (j + 1)).filter _).length
          rw [fs, f2, List.append_nil]; exact j5
        · show X.drop (j + 1) = L.drop (j + 1)
          have := congrArg (List.drop 1) j6
          rwa [List.drop_drop, List.drop_drop] at this
    · obtain rfl : j = L.length := by omega
      rw [List.take_length] at j4 j5
      have hp : p < L.length := j3
      have hp0 : ((p : Nat) : Int).toNat = p := by omega
      have s2 : spl (encInt.row X) p (List.replicate (L.length - p) (.i .i64 0)) = encInt.row (X.take p ++ (List.replicate (L.length - p) 0 ++ X.drop (p + (L.length - p)))) := by
        rw [repI, splIx _ _ _ (by rw [List.length_replicate]; omega), List.length_replicate]
      have hXp : (X.take p).length = p := by rw [List.length_take]; omega
      rw [← j5] at hk
      have fin : ∀ L0, Fin L0 (delH σ i c (X.take p ++ (List.replicate (L.length - p) 0 ++ X.drop (p + (L.length - p))))) (.sl (σ.length + 2) 0 p c) K := fun L0 => by
        refine Fin.plain (hk _ ?_ ?_)
        · rw [List.take_append_of_le_length (by rw [hXp]; exact Nat.le_refl _), List.take_of_length_le (by rw [hXp]; exact Nat.le_refl _), j4]
        · simp only [List.length_append, hXp, List.length_replicate, List.length_drop]; omega
      simp only [hp0, delH_n, delH_set, onW_rw, s2, lenI, not_true_eq_false, not_false_eq_true, decide_true, decide_false, Bool.not_true, Bool.not_false, false_implies, true_implies, and_true, true_and, Bool.false_eq_true, Bool.true_eq_false, implies_true, Bool.not_not, Classical.not_not, go_sem, Int.reduceToNat, List.take_nil, Nat.zero_mul, Nat.reduceEqDiff, Nat.reduceAdd, Nat.reduceLT, Nat.reduceLeDiff, Nat.reduceMul, ↓reduceIte, reduceCtorEq]
      repeat' first | omega | exact fin _ | (intro h; exfalso; omega) | refine ⟨?_, ?_⟩ | intro _
theorem slices_DeleteFunc_' {σ : List AB} {i : Int} {c len : Nat} {L : List Int} (hl : L.length = len) (hc : L.length ≤ c) (hs : L.length ≤ 1000000) {K : AV → List AB → Prop}
    (hk : ∀ X : List Int, X.take (L.filter fun k => decide (k ≠ i)).length = (L.filter fun k => decide (k ≠ i)) → X.length = L.length → K (.sl (σ.length + 2) 0 (L.filter fun k => decide (k ≠ i)).length c) (delH σ i c X)) :
    CallWp Try.prog n_slices_DeleteFunc_int [.sl (σ.length + 2) 0 len c, .fn n_impl_AssignPriorities_1_1 [] [(σ.length, 0)]] (delH σ i c L) K := by
  subst hl; exact slices_DeleteFunc_ hc hs hk
theorem impl_AP1_ {σ : List AB} {S : List Task} {W : List Int} {qL nL qS len cap cS : Nat} {i : Int} (hS : setOk S) (hl : len ≤ W.length) (h0 : 0 < len) (hnd : (W.take len).Nodup) (hin : inS S (W.take len)) (hi : 0 ≤ i ∧ i < (S.length : Int))
    (h1 : cellsOf σ qL = some [.sl nL 0 len cap]) (h2 : cellsOf σ nL = some (encInt.row W)) (h3 : cellsOf σ qS = some [.sl 0 0 S.length cS]) (h4 : cellsOf σ 0 = some (encTask.row S)) {K : AV → List AB → Prop}
    (hk : K (.b (decide (passT S i ((W.take len).filter fun k => decide (k ≠ i))))) σ) : CallWp Try.prog n_impl_AssignPriorities_1 [.i .i64 i, .p qL 0, .p qS 0] σ K := by
  refine callC_impl_AssignPriorities_1 (by simp) fun hC hA => ?_
  have hn5 := hS.1
  have hlW : (encInt.row W).length = W.length := lenI W
  have hWl : W.length ≤ W.length := Nat.le_refl _
  have hlen : (W.take len).length = len := by rw [List.length_take]; omega
  have hl5 : len ≤ 5 := by have := nodup_len _ _ hnd hin; omega
  have q1 : cellsOf (σ ++ [AB.rw ty_int [AV.i .i64 i] 1]) nL = some (encInt.row W) := cells_old h2 _
  simp only [c_impl_AssignPriorities_1, onC_of h1, onC_of h3, onC_old h1, onC_old h3, at_new0, not_true_eq_false, not_false_eq_true, decide_true, decide_false, Bool.not_true, Bool.not_false, false_implies, true_implies, and_true, true_and, Bool.false_eq_true, Bool.true_eq_false, implies_true, Bool.not_not, Classical.not_not, go_sem, Int.reduceToNat, List.take_nil, Nat.zero_mul, Nat.reduceEqDiff, Nat.reduceAdd, Nat.reduceLT, Nat.reduceLeDiff, Nat.reduceMul, ↓reduceIte, reduceCtorEq]
  refine slices_CloneI_ q1 (by rw [hlW]; omega) h0 (by omega) fun c hc => ?_
  rw [winIx, List.drop_zero]
  simp only [List.append_assoc, List.cons_append, List.nil_append, not_true_eq_false, not_false_eq_true, decide_true, decide_false, Bool.not_true, Bool.not_false, false_implies, true_implies, and_true, true_and, Bool.false_eq_true, Bool.true_eq_false, implies_true, Bool.not_not, Classical.not_not, go_sem, Int.reduceToNat, List.take_nil, Nat.zero_mul, Nat.reduceEqDiff, Nat.reduceAdd, Nat.reduceLT, Nat.reduceLeDiff, Nat.reduceMul, ↓reduceIte, reduceCtorEq]
  refine slices_DeleteFunc_' (σ := σ) (i := i) (c := c) (L := W.take len) hlen (by omega) (by omega) fun X hX hXl => ?_
  obtain ⟨F, hF⟩ : ∃ F, F = (W.take len).filter fun k => decide (k ≠ i) := ⟨_, rfl⟩
  rw [← hF] at hX hk ⊢
  have hFn : F.Nodup := by rw [hF]; exact hnd.sublist (List.filter_sublist ..)
  have hFi : inS S F := by rw [hF]; exact fun x hx => hin x (List.mem_filter.1 hx).1
  have hI := inst_of hS hi hFi hFn
  have rS : Rd encTask σ (.sl 0 0 S.length cS) S := Rd.own h4
  have rF : Rd encInt (delH σ i c X) (.sl (σ.length + 2) 0 F.length c) F := by
    rw [← hX, hX]
    have := Rd.first (E := encInt) (n := σ.length + 2) (cap := c) (k := F.length) (delH_c σ i c X) (by rw [← hX, List.length_take]; omega)
    rwa [hX] at this
  have c1 := delH_q σ i c X
  have d1 : cellsOf (delH σ i c X) qS = some [.sl 0 0 S.length cS] := cells_old h3 _
  have erep : rep S.length [AV.i .i64 0] = encInt.row (List.replicate S.length 0) := encInt.rep 0 _
  have z0 := hS.1
  simp only [onC_of c1, onC_of d1, onC_old c1, onC_old d1, erep, not_true_eq_false, not_false_eq_true, decide_true, decide_false, Bool.not_true, Bool.not_false, false_implies, true_implies, and_true, true_and, Bool.false_eq_true, Bool.true_eq_false, implies_true, Bool.not_not, Classical.not_not, go_sem, Int.reduceToNat, List.take_nil, Nat.zero_mul, Nat.reduceEqDiff, Nat.reduceAdd, Nat.reduceLT, Nat.reduceLeDiff, Nat.reduceMul, ↓reduceIte, reduceCtorEq]
  have rS' : Rd encTask (delH σ i c X ++ [.rw ty_int (encInt.row (List.replicate S.length 0)) S.length]) (.sl 0 0 S.length cS) S := Rd.own (cells_old (cells_old h4 _) _)
  have rF' : Rd encInt (delH σ i c X ++ [.rw ty_int (encInt.row (List.replicate S.length 0)) S.length]) (.sl (σ.length + 2) 0 F.length c) F := rF.app
  have rJ : Rd encInt (delH σ i c X ++ [.rw ty_int (encInt.row (List.replicate S.length 0)) S.length]) (.sl (delH σ i c X).length 0 S.length S.length) (List.replicate S.length 0) := by
    have := Rd.own (E := encInt) (cap := S.length) (σ := delH σ i c X ++ [.rw ty_int (encInt.row (List.replicate S.length 0)) S.length]) (n := (delH σ i c X).length) (L := List.replicate S.length 0) (by simp [cellsOf])
    rwa [List.length_replicate] at this
  refine ⟨by omega, impl_response_ hI rS' rJ rF' ?_⟩
  simp only [onC_of c1, onC_of d1, onC_old c1, onC_old d1, not_true_eq_false, not_false_eq_true, decide_true, decide_false, Bool.not_true, Bool.not_false, false_implies, true_implies, and_true, true_and, Bool.false_eq_true, Bool.true_eq_false, implies_true, Bool.not_not, Classical.not_not, go_sem, Int.reduceToNat, List.take_nil, Nat.zero_mul, Nat.reduceEqDiff, Nat.reduceAdd, Nat.reduceLT, Nat.reduceLeDiff, Nat.reduceMul, ↓reduceIte, reduceCtorEq]
  unfold delH
  rw [List.append_assoc]
  refine Fin.drop hC (Nat.le_refl _) (by simp [belowT, below1, below]) ?_
  exact hk
end Go.Proofs.Ytgnlibnnpipbhaa
