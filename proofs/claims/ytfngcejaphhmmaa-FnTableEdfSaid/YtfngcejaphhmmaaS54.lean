import Derived.Test.YtfngcejaphhmmaaS19
import Derived.Test.YtfngcejaphhmmaaS1
import Derived.Test.YtfngcejaphhmmaaM38
namespace Go.Proofs.Ytfngcejaphhmmaa
open Go.Abs Go.Ds
set_option linter.unusedSimpArgs false
set_option linter.unusedVariables false
set_option maxRecDepth 20000
set_option maxHeartbeats 4000000
def tabOk (S : List Task) : Prop := feas S ∧ hyperN S ≤ 720
def outL (S : List Task) (H k : Nat) : List Int := tabL S k ++ List.replicate (H - k) (-1)
theorem tabLf_len (S : List Task) : ∀ t : Nat, (tabLf S t).length = S.length
  | 0 => by simp [tabLf]
  | t + 1 => by
    show (tabRun S (refill S (tabLf S t) t) (tabPick S (refill S (tabLf S t) t) t)).length = S.length
    unfold tabRun
    split
    · exact refill_len _ _
    · rw [List.length_set]; exact refill_len _ _
theorem out_set {S : List Task} {H k : Nat} (h : k < H) (v : Int) : (outL S H k).set k v = tabL S k ++ v :: List.replicate (H - (k + 1)) (-1) := by
  unfold outL
  rw [List.set_append_right _ _ (by rw [tabL_len]; omega), tabL_len, Nat.sub_self, show H - k = H - (k + 1) + 1 by omega, List.replicate_succ, List.set_cons_zero]
theorem out_next {S : List Task} {H k : Nat} : outL S H (k + 1) = tabL S k ++ tabAt S k :: List.replicate (H - (k + 1)) (-1) := by
  unfold outL
  rw [tabL_succ, List.append_assoc]; rfl
theorem out_idle {S : List Task} {H k : Nat} (h : k < H) (e : tabAt S k = -1) : outL S H (k + 1) = outL S H k := by
  rw [out_next, e]
  unfold outL
  rw [show H - k = H - (k + 1) + 1 by omega, List.replicate_succ]
theorem outL_len {S : List Task} {H k : Nat} (h : k ≤ H) : (outL S H k).length = H := by
  unfold outL; rw [List.length_append, tabL_len, List.length_replicate]; omega
theorem impl_Table0 (S : List Task) (hs : S.length ≤ 1048576) (c : Nat) : CallWp Try.prog n_impl_Table [.sl 0 0 S.length c] [.ro (encTask.row S)]
    (fun x σ' => (¬ tabOk S ∧ x = .tup [.sn, .b false] ∧ σ' = [.ro (encTask.row S)]) ∨ (tabOk S ∧ ∃ cap, x = .tup [.sl 1 0 (hyperN S) cap, .b true] ∧ σ' = [.ro (encTask.row S), .rw ty_int (encInt.row (tabL S (hyperN S))) cap])) := by
  refine call_impl_Table (by simp) ?_
  simp only [c_impl_Table, not_true_eq_false, not_false_eq_true, decide_true, decide_false, Bool.not_true, Bool.not_false, false_implies, true_implies, and_true, true_and, Bool.false_eq_true, Bool.true_eq_false, implies_true, Bool.not_not, Classical.not_not, go_sem, Int.reduceToNat, List.take_nil, Nat.zero_mul, Nat.reduceEqDiff, Nat.reduceAdd, Nat.reduceLT, Nat.reduceLeDiff, Nat.reduceMul, ↓reduceIte, reduceCtorEq]
  refine impl_SetValid_ (L := S) (by omega) (Rd.own rfl) ?_
  simp only [not_true_eq_false, not_false_eq_true, decide_true, decide_false, Bool.not_true, Bool.not_false, false_implies, true_implies, and_true, true_and, Bool.false_eq_true, Bool.true_eq_false, implies_true, Bool.not_not, Classical.not_not, go_sem, Int.reduceToNat, List.take_nil, Nat.zero_mul, Nat.reduceEqDiff, Nat.reduceAdd, Nat.reduceLT, Nat.reduceLeDiff, Nat.reduceMul, ↓reduceIte, reduceCtorEq]
  have no : ¬ tabOk S → Fin 1 [.ro (encTask.row S)] (.tup [.sn, .b false]) (fun x σ' => (¬ tabOk S ∧ x = .tup [.sn, .b false] ∧ σ' = [.ro (encTask.row S)]) ∨ (tabOk S ∧ ∃ cap, x = .tup [.sl 1 0 (hyperN S) cap, .b true] ∧ σ' = [.ro (encTask.row S), .rw ty_int (encInt.row (tabL S (hyperN S))) cap])) := fun h => Fin.plain (.inl ⟨h, rfl, rfl⟩)
  refine ⟨fun hS => impl_feasible_ hS (Rd.own rfl) ?_, fun hS => no fun h => hS h.1.1⟩
  simp only [not_true_eq_false, not_false_eq_true, decide_true, decide_false, Bool.not_true, Bool.not_false, false_implies, true_implies, and_true, true_and, Bool.false_eq_true, Bool.true_eq_false, implies_true, Bool.not_not, Classical.not_not, go_sem, Int.reduceToNat, List.take_nil, Nat.zero_mul, Nat.reduceEqDiff, Nat.reduceAdd, Nat.reduceLT, Nat.reduceLeDiff, Nat.reduceMul, ↓reduceIte, reduceCtorEq]
  refine ⟨fun hf => impl_hyper_ hS (Rd.own rfl) ?_, fun hf => no fun h => hf h.1⟩
  simp only [not_true_eq_false, not_false_eq_true, decide_true, decide_false, Bool.not_true, Bool.not_false, false_implies, true_implies, and_true, true_and, Bool.false_eq_true, Bool.true_eq_false, implies_true, Bool.not_not, Classical.not_not, go_sem, Int.reduceToNat, List.take_nil, Nat.zero_mul, Nat.reduceEqDiff, Nat.reduceAdd, Nat.reduceLT, Nat.reduceLeDiff, Nat.reduceMul, ↓reduceIte, reduceCtorEq]
  refine ⟨fun hH => no fun h => by have := h.2; omega, fun hH => impl_hyper_ hS (Rd.own rfl) ?_⟩
  simp only [not_true_eq_false, not_false_eq_true, decide_true, decide_false, Bool.not_true, Bool.not_false, false_implies, true_implies, and_true, true_and, Bool.false_eq_true, Bool.true_eq_false, implies_true, Bool.not_not, Classical.not_not, go_sem, Int.reduceToNat, List.take_nil, Nat.zero_mul, Nat.reduceEqDiff, Nat.reduceAdd, Nat.reduceLT, Nat.reduceLeDiff, Nat.reduceMul, ↓reduceIte, reduceCtorEq]
  refine impl_none_ (hyperN S) (by omega) fun capO => ?_
  simp only [not_true_eq_false, not_false_eq_true, decide_true, decide_false, Bool.not_true, Bool.not_false, false_implies, true_implies, and_true, true_and, Bool.false_eq_true, Bool.true_eq_false, implies_true, Bool.not_not, Classical.not_not, go_sem, Int.reduceToNat, List.take_nil, Nat.zero_mul, Nat.reduceEqDiff, Nat.reduceAdd, Nat.reduceLT, Nat.reduceLeDiff, Nat.reduceMul, ↓reduceIte, reduceCtorEq]
  refine seq_join (fun _ : Unit => ⟨[(0, .sl 0 0 S.length c), (4, .sl 1 0 (hyperN S) capO), (5, .sl 2 0 S.length S.length), (6, .sl 3 0 S.length S.length)], [.ro (encTask.row S), .rw ty_int (encInt.row (outL S (hyperN S) 0)) capO, .rw ty_int (encInt.row (tabLf S 0)) S.length, .rw ty_int (encInt.row (duL S 0)) S.length]⟩) (fun _ => True) ?_ fun _ _ => ?_
  · have e1 : outL S (hyperN S) 0 = List.replicate (hyperN S) (-1) := by simp [outL, tabL]
    have e2 : rep S.length [AV.i .i64 0] = encInt.row (tabLf S 0) := encInt.rep 0 _
    have e3 : duL S 0 = tabLf S 0 := by
      apply List.ext_getElem
      · simp [duL, tabLf]
      · intro i h1 h2; simp [duL, tabLf]
    simp only [e1, e3, e2, not_true_eq_false, not_false_eq_true, decide_true, decide_false, Bool.not_true, Bool.not_false, false_implies, true_implies, and_true, true_and, Bool.false_eq_true, Bool.true_eq_false, implies_true, Bool.not_not, Classical.not_not, go_sem, Int.reduceToNat, List.take_nil, Nat.zero_mul, Nat.reduceEqDiff, Nat.reduceAdd, Nat.reduceLT, Nat.reduceLeDiff, Nat.reduceMul, ↓reduceIte, reduceCtorEq]
    refine ⟨?_, ?_⟩
    · repeat' first
        | omega
        | exact kJ_intro () trivial (Wk.pick [0, 1, 2, 3])
        | refine ⟨?_, ?_⟩
    · repeat' first
        | omega
        | exact kJ_intro () trivial (Wk.pick [0, 1, 3, 2])
        | refine ⟨?_, ?_⟩
  have h5 := hS.1
  simp only [not_true_eq_false, not_false_eq_true, decide_true, decide_false, Bool.not_true, Bool.not_false, false_implies, true_implies, and_true, true_and, Bool.false_eq_true, Bool.true_eq_false, implies_true, Bool.not_not, Classical.not_not, go_sem, Int.reduceToNat, List.take_nil, Nat.zero_mul, Nat.reduceEqDiff, Nat.reduceAdd, Nat.reduceLT, Nat.reduceLeDiff, Nat.reduceMul, ↓reduceIte, reduceCtorEq]
  refine loop_count (hyperN S) (fun k => ⟨[(0, .sl 0 0 S.length c), (4, .sl 1 0 (hyperN S) capO), (5, .sl 2 0 S.length S.length), (6, .sl 3 0 S.length S.length), (34, .i .i64 (hyperN S : Nat)), (35, .i .i64 k)], [.ro (encTask.row S), .rw ty_int (encInt.row (outL S (hyperN S) k)) capO, .rw ty_int (encInt.row (tabLf S k)) S.length, .rw ty_int (encInt.row (duL S k)) S.length]⟩)
    (fun _ => True) trivial (Wk.pick [0, 1, 2, 3]) fun k hk _ => ?_
  simp only [l1_impl_Table, not_true_eq_false, not_false_eq_true, decide_true, decide_false, Bool.not_true, Bool.not_false, false_implies, true_implies, and_true, true_and, Bool.false_eq_true, Bool.true_eq_false, implies_true, Bool.not_not, Classical.not_not, go_sem, Int.reduceToNat, List.take_nil, Nat.zero_mul, Nat.reduceEqDiff, Nat.reduceAdd, Nat.reduceLT, Nat.reduceLeDiff, Nat.reduceMul, ↓reduceIte, reduceCtorEq]
  refine ⟨fun hlt => ?_, fun hge => ?_⟩
  · refine loop_count S.length (fun i => ⟨[(0, .sl 0 0 S.length c), (4, .sl 1 0 (hyperN S) capO), (5, .sl 2 0 S.length S.length), (6, .sl 3 0 S.length S.length), (7, .i .i64 k), (8, .i .i64 (bestF i (fun q => decide (0 < gI (tabLr S k) q)) (dueT S k))), (34, .i .i64 (hyperN S : Nat)), (35, .i .i64 k), (38, .sl 0 0 S.length c), (39, .i .i64 S.length), (40, .i .i64 i)], [.ro (encTask.row S), .rw ty_int (encInt.row (outL S (hyperN S) k)) capO, .rw ty_int (encInt.row (mixT S.length i (tabLr S k) (tabLf S k))) S.length, .rw ty_int (encInt.row (mixT S.length i (duL S (k + 1)) (duL S k))) S.length]⟩)
      (fun _ => True) trivial ?_ fun i hi _ => ?_
    · rw [mixT_zero (tabLf_len S k), mixT_zero (duL_len S k), show bestF 0 (fun q : Nat => decide (0 < gI (tabLr S k) q)) (dueT S k) = -1 from rfl]
      exact Wk.pick [0, 1, 2, 3]
    · simp only [l0_impl_Table, not_true_eq_false, not_false_eq_true, decide_true, decide_false, Bool.not_true, Bool.not_false, false_implies, true_implies, and_true, true_and, Bool.false_eq_true, Bool.true_eq_false, implies_true, Bool.not_not, Classical.not_not, go_sem, Int.reduceToNat, List.take_nil, Nat.zero_mul, Nat.reduceEqDiff, Nat.reduceAdd, Nat.reduceLT, Nat.reduceLeDiff, Nat.reduceMul, ↓reduceIte, reduceCtorEq]
      refine ⟨fun hli => ?_, fun hge => ?_⟩
      · simp only [winT hli, lenT, not_true_eq_false, not_false_eq_true, decide_true, decide_false, Bool.not_true, Bool.not_false, false_implies, true_implies, and_true, true_and, Bool.false_eq_true, Bool.true_eq_false, implies_true, Bool.not_not, Classical.not_not, go_sem, Int.reduceToNat, List.take_nil, Nat.zero_mul, Nat.reduceEqDiff, Nat.reduceAdd, Nat.reduceLT, Nat.reduceLeDiff, Nat.reduceMul, ↓reduceIte, reduceCtorEq]
        have hx := hS.2 _ (List.getElem_mem hli)
        unfold Task.ok at hx
        have hg : gT S i = S[i] := gT_nat hli
        have hmod : (k : Int).tmod S[i].P = (k : Int) % S[i].P := Int.tmod_eq_emod_of_nonneg (by omega)
        refine ⟨hli, by omega, rfl, ?_⟩
        refine seq_join (fun _ : Unit => ⟨[(0, .sl 0 0 S.length c), (4, .sl 1 0 (hyperN S) capO), (5, .sl 2 0 S.length S.length), (6, .sl 3 0 S.length S.length), (7, .i .i64 k), (8, .i .i64 (bestF i (fun q => decide (0 < gI (tabLr S k) q)) (dueT S k))), (9, .i .i64 i), (34, .i .i64 (hyperN S : Nat)), (35, .i .i64 k), (38, .sl 0 0 S.length c), (39, .i .i64 S.length), (40, .i .i64 i)], [.ro (encTask.row S), .rw ty_int (encInt.row (outL S (hyperN S) k)) capO, .rw ty_int (encInt.row (mixT S.length (i + 1) (tabLr S k) (tabLf S k))) S.length, .rw ty_int (encInt.row (mixT S.length (i + 1) (duL S (k + 1)) (duL S k))) S.length]⟩) (fun _ => True) ?_ fun _ _ => ?_
        · have hl1 : i < (mixT S.length i (tabLr S k) (tabLf S k)).length := by rw [mixT_len]; exact hli
          have hl2 : i < (mixT S.length i (duL S (k + 1)) (duL S k)).length := by rw [mixT_len]; exact hli
          simp only [show encTask.f S[i] = [.i .i64 S[i].C, .i .i64 S[i].D, .i .i64 S[i].P] from rfl, hmod, splI hl1, splI hl2, lenI, mixT_len, not_true_eq_false, not_false_eq_true, decide_true, decide_false, Bool.not_true, Bool.not_false, false_implies, true_implies, and_true, true_and, Bool.false_eq_true, Bool.true_eq_false, implies_true, Bool.not_not, Classical.not_not, go_sem, Int.reduceToNat, List.take_nil, Nat.zero_mul, Nat.reduceEqDiff, Nat.reduceAdd, Nat.reduceLT, Nat.reduceLeDiff, Nat.reduceMul, ↓reduceIte, reduceCtorEq]
          refine ⟨by omega, fun h0 => ?_, fun h0 => ?_⟩
          · have e1 : gI (tabLr S k) i = S[i].C := by rw [lr_get hli, if_pos (by rw [hg]; exact h0), hg]
            have e2 : gI (duL S (k + 1)) i = k + S[i].D := by rw [duL_new hS hli (by rw [hg]; exact h0), hg]
            rw [mixT_set e1, mixT_set e2]
            exact ⟨by omega, by omega, by omega, by omega, by omega, kJ_intro () trivial (Wk.pick [0, 1, 2, 3])⟩
          · have e1 : gI (tabLr S k) i = gI (tabLf S k) i := by rw [lr_get hli, if_neg (by rw [hg]; exact h0)]
            have e2 : gI (duL S (k + 1)) i = gI (duL S k) i := duL_old hS hli (by rw [hg]; exact h0)
            rw [mixT_same e1, mixT_same e2]
            exact kJ_intro () trivial (Wk.pick [0, 1, 2, 3])
        · have hl1 : i < (mixT S.length (i + 1) (tabLr S k) (tabLf S k)).length := by rw [mixT_len]; exact hli
          have hl2 : i < (mixT S.length (i + 1) (duL S (k + 1)) (duL S k)).length := by rw [mixT_len]; exact hli
          have hL : (mixT S.length (i + 1) (tabLr S k) (tabLf S k))[i] = gI (tabLr S k) i := by rw [mixT_get hl1, if_pos (by omega)]
          have hD : (mixT S.length (i + 1) (duL S (k + 1)) (duL S k))[i] = dueT S k i := by rw [mixT_get hl2, if_pos (by omega), duL_due hli]
          have hbs := bestF_succ i (fun q => decide (0 < gI (tabLr S k) q)) (dueT S k)
          rcases bestF_spec (fun q => decide (0 < gI (tabLr S k) q)) (dueT S k) i with ⟨e, _⟩ | ⟨b, e, hb, _, _⟩
          · rw [e] at hbs ⊢
            by_cases hp : 0 < gI (tabLr S k) i
            · rw [if_pos ⟨decide_eq_true hp, .inl (by decide)⟩] at hbs
              rw [hbs]
              simp only [rdI hl1, hL, lenI, mixT_len, not_true_eq_false, not_false_eq_true, decide_true, decide_false, Bool.not_true, Bool.not_false, false_implies, true_implies, and_true, true_and, Bool.false_eq_true, Bool.true_eq_false, implies_true, Bool.not_not, Classical.not_not, go_sem, Int.reduceToNat, List.take_nil, Nat.zero_mul, Nat.reduceEqDiff, Nat.reduceAdd, Nat.reduceLT, Nat.reduceLeDiff, Nat.reduceMul, ↓reduceIte, reduceCtorEq]
              repeat' first | omega | (exfalso; omega) | exact Wk.pick [0, 1, 2, 3] | refine ⟨?_, ?_⟩ | intro _
            · rw [if_neg (fun g => hp (of_decide_eq_true g.1))] at hbs
              rw [hbs]
              simp only [rdI hl1, hL, lenI, mixT_len, not_true_eq_false, not_false_eq_true, decide_true, decide_false, Bool.not_true, Bool.not_false, false_implies, true_implies, and_true, true_and, Bool.false_eq_true, Bool.true_eq_false, implies_true, Bool.not_not, Classical.not_not, go_sem, Int.reduceToNat, List.take_nil, Nat.zero_mul, Nat.reduceEqDiff, Nat.reduceAdd, Nat.reduceLT, Nat.reduceLeDiff, Nat.reduceMul, ↓reduceIte, reduceCtorEq]
              repeat' first | omega | (exfalso; omega) | exact Wk.pick [0, 1, 2, 3] | refine ⟨?_, ?_⟩ | intro _
          · have hlb : b < (mixT S.length (i + 1) (duL S (k + 1)) (duL S k)).length := by rw [mixT_len]; omega
            have hDb : (mixT S.length (i + 1) (duL S (k + 1)) (duL S k))[b] = dueT S k b := by rw [mixT_get hlb, if_pos (by omega), duL_due (by omega)]
            rw [e] at hbs ⊢
            rw [Int.toNat_natCast] at hbs
            by_cases hp : 0 < gI (tabLr S k) i ∧ dueT S k i < dueT S k b
            · rw [if_pos ⟨decide_eq_true hp.1, .inr hp.2⟩] at hbs
              rw [hbs]
              simp only [rdI hl1, rdI hl2, rdI hlb, hL, hD, hDb, Int.toNat_natCast, lenI, mixT_len, not_true_eq_false, not_false_eq_true, decide_true, decide_false, Bool.not_true, Bool.not_false, false_implies, true_implies, and_true, true_and, Bool.false_eq_true, Bool.true_eq_false, implies_true, Bool.not_not, Classical.not_not, go_sem, Int.reduceToNat, List.take_nil, Nat.zero_mul, Nat.reduceEqDiff, Nat.reduceAdd, Nat.reduceLT, Nat.reduceLeDiff, Nat.reduceMul, ↓reduceIte, reduceCtorEq]
              repeat' first | omega | (exfalso; omega) | exact Wk.pick [0, 1, 2, 3] | refine ⟨?_, ?_⟩ | intro _
            · rw [if_neg (fun g => hp ⟨of_decide_eq_true g.1, g.2.resolve_left (by omega)⟩)] at hbs
              rw [hbs]
              simp only [rdI hl1, rdI hl2, rdI hlb, hL, hD, hDb, Int.toNat_natCast, lenI, mixT_len, not_true_eq_false, not_false_eq_true, decide_true, decide_false, Bool.not_true, Bool.not_false, false_implies, true_implies, and_true, true_and, Bool.false_eq_true, Bool.true_eq_false, implies_true, Bool.not_not, Classical.not_not, go_sem, Int.reduceToNat, List.take_nil, Nat.zero_mul, Nat.reduceEqDiff, Nat.reduceAdd, Nat.reduceLT, Nat.reduceLeDiff, Nat.reduceMul, ↓reduceIte, reduceCtorEq]
              repeat' first | omega | (exfalso; omega) | exact Wk.pick [0, 1, 2, 3] | refine ⟨?_, ?_⟩ | intro _
      · have ei : i = S.length := by omega
        subst ei
        rw [mixT_all (by rw [tabLr, refill_len]), mixT_all (duL_len S (k + 1))]
        have hb : bestF S.length (fun q => decide (0 < gI (tabLr S k) q)) (dueT S k) = tabAt S k := rfl
        rw [hb]
        have hkH : k < hyperN S := by omega
        have eT : tabLf S (k + 1) = tabRun S (tabLr S k) (tabAt S k) := rfl
        rcases tab_pick (S := S) k with ⟨e, _⟩ | ⟨b, hb2, e, hp, _⟩
        · have e2 : tabLf S (k + 1) = tabLr S k := by rw [eT, e]; rfl
          rw [e, out_idle hkH e, e2]
          refine ⟨fun hh => absurd hh (by decide), fun _ => ⟨by omega, by omega, ?_⟩⟩
          exact Wk.pick [0, 1, 2, 3]
        · have hbl : b < (tabLr S k).length := by rw [tabLr, refill_len]; exact hb2
          have gb : gI (tabLr S k) b = (tabLr S k)[b] := by simp [gI, List.getD_eq_getElem?_getD, hbl]
          have hbd := lr_bound hS hb2 k
          have hx := gT_okN hS hb2
          unfold Task.ok at hx
          have e2 : tabLf S (k + 1) = (tabLr S k).set b ((tabLr S k)[b] - 1) := by
            rw [eT, e]
            unfold tabRun
            rw [if_neg (by omega), Int.toNat_natCast, gb]
          have hko : k < (outL S (hyperN S) k).length := by rw [outL_len (by omega)]; exact hkH
          have hll : (tabLr S k).length = S.length := by rw [tabLr, refill_len]
          have hol := outL_len (S := S) (show k ≤ hyperN S by omega)
          have eo : (outL S (hyperN S) k).set k (b : Int) = outL S (hyperN S) (k + 1) := by rw [out_set hkH, out_next, e]
          rw [e]
          simp only [Int.toNat_natCast, rdI hbl, splI hbl, splI hko, eo, e2, lenI, hll, hol, not_true_eq_false, not_false_eq_true, decide_true, decide_false, Bool.not_true, Bool.not_false, false_implies, true_implies, and_true, true_and, Bool.false_eq_true, Bool.true_eq_false, implies_true, Bool.not_not, Classical.not_not, go_sem, Int.reduceToNat, List.take_nil, Nat.zero_mul, Nat.reduceEqDiff, Nat.reduceAdd, Nat.reduceLT, Nat.reduceLeDiff, Nat.reduceMul, ↓reduceIte, reduceCtorEq]
          rw [gb] at hbd
          repeat' first | omega | exact Wk.pick [0, 1, 2, 3] | refine ⟨?_, ?_⟩
  · have ek : k = hyperN S := by omega
    subst ek
    have eo : outL S (hyperN S) (hyperN S) = tabL S (hyperN S) := by simp [outL]
    rw [eo]
    exact Fin.pick [0, 1] (.tup [.sl 1 0 (hyperN S) capO, .b true]) _ (.inr ⟨⟨hf, by omega⟩, capO, rfl, rfl⟩)
def TableP (N : Nat) (S : List Task) (x : AV) (τ : List AB) : Prop := (¬ tabOk S ∧ x = .tup [.sn, .b false] ∧ τ = []) ∨ (tabOk S ∧ ∃ cap, x = .tup [.sl N 0 (hyperN S) cap, .b true] ∧ τ = [.rw ty_int (encInt.row (tabL S (hyperN S))) cap])
theorem TableP.fr {N : Nat} {S : List Task} {x : AV} {τ : List AB} (h : TableP N S x τ) : τ.all plainRw = true ∧ freshA N x = true := by
  rcases h with ⟨_, rfl, rfl⟩ | ⟨_, c, rfl, rfl⟩
  · exact ⟨rfl, rfl⟩
  · simp [plainRw, encInt.row_flat, freshA, fresh1A, freshC, Abs.flat]
theorem impl_Table_ {S : List Task} (hs : S.length ≤ 1048576) {v : AV} {σ : List AB} (h : Rd encTask σ v S) {K : AV → List AB → Prop} (hn : ¬ tabOk S → K (.tup [.sn, .b false]) σ)
    (hy : tabOk S → ∀ cap, K (.tup [.sl σ.length 0 (hyperN S) cap, .b true]) (σ ++ [.rw ty_int (encInt.row (tabL S (hyperN S))) cap])) : CallWp Try.prog n_impl_Table [v] σ K := by
  refine call_news _ (rds1 h.r) (fun c => [.sl 0 0 S.length (c 0)]) (TableP 1 S) (fun c => (impl_Table0 S hs (c 0)).mono ?_) (fun _ _ h => h.fr) (fun ν c h => ⟨h.1, trivial⟩) (fun _ => rfl) ?_
  · rintro x σ' _ (⟨h1, rfl, rfl⟩ | ⟨h1, cap, rfl, rfl⟩)
    · exact ⟨[], rfl, .inl ⟨h1, rfl, rfl⟩⟩
    · exact ⟨_, rfl, .inr ⟨h1, cap, rfl, rfl⟩⟩
  · rintro x τ (⟨h1, rfl, rfl⟩ | ⟨h1, cap, rfl, rfl⟩)
    · rw [List.append_nil]; exact hn h1
    · exact hy h1 cap
end Go.Proofs.Ytfngcejaphhmmaa
