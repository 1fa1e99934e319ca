import Derived.Test.YtmphblbpofnpaaaS76
import Derived.Test.YtmphblbpofnpaaaS14
namespace Go.Proofs.Ytmphblbpofnpaaa
open Go.Abs Go.Ds
set_option linter.unusedSimpArgs false
set_option linter.unusedVariables false
set_option maxRecDepth 20000
set_option maxHeartbeats 4000000
theorem sortNil_ {f : Nat} {cb : List (Nat × Nat)} {σ : List AB} {K : AV → List AB → Prop} (hk : K (.tup []) σ) : CallWp Try.prog n_slices_SortStableFunc_int [.sn, .fn f [] cb] σ K := by
  refine call_slices_SortStableFunc_int (by simp) ?_
  simp only [c_slices_SortStableFunc_int, not_true_eq_false, not_false_eq_true, decide_true, decide_false, Bool.not_true, Bool.not_false, false_implies, true_implies, and_true, true_and, Bool.false_eq_true, Bool.true_eq_false, implies_true, Bool.not_not, Classical.not_not, go_sem, Int.reduceToNat, List.take_nil, Nat.zero_mul, Nat.reduceEqDiff, Nat.reduceAdd, Nat.reduceLT, Nat.reduceLeDiff, Nat.reduceMul, ↓reduceIte, reduceCtorEq]
  refine call_slices_stableCmpFunc_int (by simp) ?_
  simp only [c_slices_stableCmpFunc_int, not_true_eq_false, not_false_eq_true, decide_true, decide_false, Bool.not_true, Bool.not_false, false_implies, true_implies, and_true, true_and, Bool.false_eq_true, Bool.true_eq_false, implies_true, Bool.not_not, Classical.not_not, go_sem, Int.reduceToNat, List.take_nil, Nat.zero_mul, Nat.reduceEqDiff, Nat.reduceAdd, Nat.reduceLT, Nat.reduceLeDiff, Nat.reduceMul, ↓reduceIte, reduceCtorEq]
  refine loop_count 0 (fun i => ⟨[(0, .sn), (1, .i .i64 0), (2, .fn f [] cb), (6, .i .i64 20), (7, .i .i64 0), (8, .i .i64 20)], σ⟩) (fun _ => True) trivial (Wk.keep (by simp [look_cons])) fun i hi _ => ?_
  simp only [l2_slices_stableCmpFunc_int, not_true_eq_false, not_false_eq_true, decide_true, decide_false, Bool.not_true, Bool.not_false, false_implies, true_implies, and_true, true_and, Bool.false_eq_true, Bool.true_eq_false, implies_true, Bool.not_not, Classical.not_not, go_sem, Int.reduceToNat, List.take_nil, Nat.zero_mul, Nat.reduceEqDiff, Nat.reduceAdd, Nat.reduceLT, Nat.reduceLeDiff, Nat.reduceMul, ↓reduceIte, reduceCtorEq]
  refine ⟨fun h => absurd h (by omega), fun _ => ?_⟩
  refine call_slices_insertionSortCmpFunc_int (by simp) ?_
  simp only [c_slices_insertionSortCmpFunc_int, not_true_eq_false, not_false_eq_true, decide_true, decide_false, Bool.not_true, Bool.not_false, false_implies, true_implies, and_true, true_and, Bool.false_eq_true, Bool.true_eq_false, implies_true, Bool.not_not, Classical.not_not, go_sem, Int.reduceToNat, List.take_nil, Nat.zero_mul, Nat.reduceEqDiff, Nat.reduceAdd, Nat.reduceLT, Nat.reduceLeDiff, Nat.reduceMul, ↓reduceIte, reduceCtorEq]
  refine ⟨by omega, loop_count 0 (fun i => ⟨[(0, .sn), (1, .i .i64 0), (2, .i .i64 0), (3, .fn f [] cb), (8, .i .i64 1)], σ⟩) (fun _ => True) trivial (Wk.keep (by simp [look_cons])) fun i hi _ => ?_⟩
  simp only [l1_slices_insertionSortCmpFunc_int, not_true_eq_false, not_false_eq_true, decide_true, decide_false, Bool.not_true, Bool.not_false, false_implies, true_implies, and_true, true_and, Bool.false_eq_true, Bool.true_eq_false, implies_true, Bool.not_not, Classical.not_not, go_sem, Int.reduceToNat, List.take_nil, Nat.zero_mul, Nat.reduceEqDiff, Nat.reduceAdd, Nat.reduceLT, Nat.reduceLeDiff, Nat.reduceMul, ↓reduceIte, reduceCtorEq]
  refine ⟨fun h => absurd h (by omega), fun _ => Fin.plain ?_⟩
  simp only [not_true_eq_false, not_false_eq_true, decide_true, decide_false, Bool.not_true, Bool.not_false, false_implies, true_implies, and_true, true_and, Bool.false_eq_true, Bool.true_eq_false, implies_true, Bool.not_not, Classical.not_not, go_sem, Int.reduceToNat, List.take_nil, Nat.zero_mul, Nat.reduceEqDiff, Nat.reduceAdd, Nat.reduceLT, Nat.reduceLeDiff, Nat.reduceMul, ↓reduceIte, reduceCtorEq]
  refine loop_count 0 (fun i => ⟨[(0, .sn), (1, .i .i64 0), (2, .fn f [] cb), (6, .i .i64 20)], σ⟩) (fun _ => True) trivial (Wk.keep (by simp [look_cons])) fun i hi _ => ?_
  simp only [l1_slices_stableCmpFunc_int, not_true_eq_false, not_false_eq_true, decide_true, decide_false, Bool.not_true, Bool.not_false, false_implies, true_implies, and_true, true_and, Bool.false_eq_true, Bool.true_eq_false, implies_true, Bool.not_not, Classical.not_not, go_sem, Int.reduceToNat, List.take_nil, Nat.zero_mul, Nat.reduceEqDiff, Nat.reduceAdd, Nat.reduceLT, Nat.reduceLeDiff, Nat.reduceMul, ↓reduceIte, reduceCtorEq]
  refine ⟨fun h => absurd h (by omega), fun _ => Fin.plain ?_⟩
  simp only [not_true_eq_false, not_false_eq_true, decide_true, decide_false, Bool.not_true, Bool.not_false, false_implies, true_implies, and_true, true_and, Bool.false_eq_true, Bool.true_eq_false, implies_true, Bool.not_not, Classical.not_not, go_sem, Int.reduceToNat, List.take_nil, Nat.zero_mul, Nat.reduceEqDiff, Nat.reduceAdd, Nat.reduceLT, Nat.reduceLeDiff, Nat.reduceMul, ↓reduceIte, reduceCtorEq]
  exact Fin.plain hk
theorem slices_Clone_nil {σ : List AB} {K : AV → List AB → Prop} (hk : K .sn σ) : CallWp Try.prog n_slices_Clone_int [.sn] σ K := by
  refine call_slices_Clone_int (by simp) ?_
  simp only [c_slices_Clone_int, not_true_eq_false, not_false_eq_true, decide_true, decide_false, Bool.not_true, Bool.not_false, false_implies, true_implies, and_true, true_and, Bool.false_eq_true, Bool.true_eq_false, implies_true, Bool.not_not, Classical.not_not, go_sem, Int.reduceToNat, List.take_nil, Nat.zero_mul, Nat.reduceEqDiff, Nat.reduceAdd, Nat.reduceLT, Nat.reduceLeDiff, Nat.reduceMul, ↓reduceIte, reduceCtorEq]
  exact Fin.plain hk
theorem slices_Clone_some {σ : List AB} {n o len cap : Nat} {cs : List AV} (h : cellsOf σ n = some cs) (hl : o + len ≤ cs.length) (h0 : 0 < len) (h1 : len ≤ 1000000) {K : AV → List AB → Prop}
    (hk : ∀ c, len ≤ c → K (.sl (σ.length + 1) 0 len c) ((σ ++ [.rw ty_int [] 0]) ++ [.rw ty_int (win cs o len) c])) : CallWp Try.prog n_slices_Clone_int [.sl n o len cap] σ K := by
  refine call_slices_Clone_int (by simp) ?_
  simp only [c_slices_Clone_int, at_new0, onC_old h, not_true_eq_false, not_false_eq_true, decide_true, decide_false, Bool.not_true, Bool.not_false, false_implies, true_implies, and_true, true_and, Bool.false_eq_true, Bool.true_eq_false, implies_true, Bool.not_not, Classical.not_not, go_sem, Int.reduceToNat, List.take_nil, Nat.zero_mul, Nat.reduceEqDiff, Nat.reduceAdd, Nat.reduceLT, Nat.reduceLeDiff, Nat.reduceMul, ↓reduceIte, reduceCtorEq]
  exact ⟨fun h2 => absurd h2 (by omega), ⟨by omega, by omega⟩, fun h2 => absurd h2 (by omega), fun _ c hc => Fin.plain (hk c hc)⟩
theorem impl_clone_nil {σ : List AB} {K : AV → List AB → Prop} (hk : K .sn σ) : CallWp Try.prog n_impl_clone_int [.sn] σ K := by
  refine call_impl_clone_int (by simp) ?_
  simp only [c_impl_clone_int, not_true_eq_false, not_false_eq_true, decide_true, decide_false, Bool.not_true, Bool.not_false, false_implies, true_implies, and_true, true_and, Bool.false_eq_true, Bool.true_eq_false, implies_true, Bool.not_not, Classical.not_not, go_sem, Int.reduceToNat, List.take_nil, Nat.zero_mul, Nat.reduceEqDiff, Nat.reduceAdd, Nat.reduceLT, Nat.reduceLeDiff, Nat.reduceMul, ↓reduceIte, reduceCtorEq]
  refine slices_Clone_nil ?_
  simp only [not_true_eq_false, not_false_eq_true, decide_true, decide_false, Bool.not_true, Bool.not_false, false_implies, true_implies, and_true, true_and, Bool.false_eq_true, Bool.true_eq_false, implies_true, Bool.not_not, Classical.not_not, go_sem, Int.reduceToNat, List.take_nil, Nat.zero_mul, Nat.reduceEqDiff, Nat.reduceAdd, Nat.reduceLT, Nat.reduceLeDiff, Nat.reduceMul, ↓reduceIte, reduceCtorEq]
  refine slices_Clip_int_nil ?_
  simp only [not_true_eq_false, not_false_eq_true, decide_true, decide_false, Bool.not_true, Bool.not_false, false_implies, true_implies, and_true, true_and, Bool.false_eq_true, Bool.true_eq_false, implies_true, Bool.not_not, Classical.not_not, go_sem, Int.reduceToNat, List.take_nil, Nat.zero_mul, Nat.reduceEqDiff, Nat.reduceAdd, Nat.reduceLT, Nat.reduceLeDiff, Nat.reduceMul, ↓reduceIte, reduceCtorEq]
  exact Fin.plain hk
theorem impl_clone_some {σ : List AB} {n o len cap : Nat} {cs : List AV} (h : cellsOf σ n = some cs) (hl : o + len ≤ cs.length) (h0 : 0 < len) (h1 : len ≤ 1000000) {K : AV → List AB → Prop}
    (hk : ∀ c, len ≤ c → K (.sl (σ.length + 1) 0 len len) ((σ ++ [.rw ty_int [] 0]) ++ [.rw ty_int (win cs o len) c])) : CallWp Try.prog n_impl_clone_int [.sl n o len cap] σ K := by
  refine call_impl_clone_int (by simp) ?_
  simp only [c_impl_clone_int, not_true_eq_false, not_false_eq_true, decide_true, decide_false, Bool.not_true, Bool.not_false, false_implies, true_implies, and_true, true_and, Bool.false_eq_true, Bool.true_eq_false, implies_true, Bool.not_not, Classical.not_not, go_sem, Int.reduceToNat, List.take_nil, Nat.zero_mul, Nat.reduceEqDiff, Nat.reduceAdd, Nat.reduceLT, Nat.reduceLeDiff, Nat.reduceMul, ↓reduceIte, reduceCtorEq]
  refine slices_Clone_some h hl h0 h1 fun c hc => ?_
  simp only [not_true_eq_false, not_false_eq_true, decide_true, decide_false, Bool.not_true, Bool.not_false, false_implies, true_implies, and_true, true_and, Bool.false_eq_true, Bool.true_eq_false, implies_true, Bool.not_not, Classical.not_not, go_sem, Int.reduceToNat, List.take_nil, Nat.zero_mul, Nat.reduceEqDiff, Nat.reduceAdd, Nat.reduceLT, Nat.reduceLeDiff, Nat.reduceMul, ↓reduceIte, reduceCtorEq]
  refine slices_Clip_int_ (b := .rw ty_int (win cs o len) c) ?_ hc ?_
  · rw [show σ.length + 1 = (σ ++ [AB.rw ty_int [] 0]).length by simp, at_new0]; rfl
  · simp only [not_true_eq_false, not_false_eq_true, decide_true, decide_false, Bool.not_true, Bool.not_false, false_implies, true_implies, and_true, true_and, Bool.false_eq_true, Bool.true_eq_false, implies_true, Bool.not_not, Classical.not_not, go_sem, Int.reduceToNat, List.take_nil, Nat.zero_mul, Nat.reduceEqDiff, Nat.reduceAdd, Nat.reduceLT, Nat.reduceLeDiff, Nat.reduceMul, ↓reduceIte, reduceCtorEq]
    exact Fin.plain (hk c hc)
def keepG (m N : Nat) (p : Nat → Nat) (v : AV) : List (Nat × AV) := [(2, .i .i64 m), (4, .p N 0), (6, .p (N + 1) 0), (7, .p (p 0) 0), (8, .p (p 4) 0), (9, v)]
def vRow (p : Nat → Nat) (t : Nat) (r : List Int) : AV := if r = [] then .sn else .sl (p (t + 6)) 0 r.length r.length
section
variable {L : List Job} {j jc : Nat} {σ H : List AB} {q : QG} {p c : Nat → Nat}
theorem GF.aRow (h : GF L j jc σ q H p c) {k : Nat} (hk : k < q.R.length) (hr : gRw q.R k ≠ []) : H[p (k + 6)]? = some (.rw ty_int (encInt.row (gRw q.R k)) (c (k + 6) * 1)) := h.lay.at (i := k + 6) (if_pos ⟨hk, hr⟩)
theorem gDo_snoc {L : List Job} {now : Nat} (r : List Nat) (i : Nat) (s : GSt) : gDo L now (r ++ [i]) s = gDo1 L now (gDo L now r s) i := by unfold gDo; rw [List.foldl_append]; rfl
theorem rg_run {m : Nat} {o : List Nat} {s : GSt} {L0 : Nat} {Q : Exit → St → Prop} {T : List (Nat × AV)} (hl : L.length ≤ 1000000) (hj : cellsOf σ j = some (encJob.row L)) (ho : ∀ i ∈ o, i < L.length) (hol : o.length ≤ 1000000) (hb : ∀ i : Nat, i < L.length → -1000000 ≤ gI s.done i ∧ gI s.done i ≤ 1000000) (hnd : o.Nodup)
    (h1 : s.done.length = L.length) (h2 : s.fin.length = L.length) (hq1 : q.done = s.done) (hq2 : q.fin = s.fin) (hqt : q.t ≤ 1000000) (hR : q.n < q.R.length) (hRn : gRw q.R q.n = natsOf o) (hF : GF L j jc σ q H p c)
    (hT : ∀ x ∈ keepG m σ.length p (vRow p q.n (natsOf o)) ++ [(65, vRow p q.n (natsOf o)), (66, .i .i64 o.length), (67, .i .i64 0)], Abs.look T x.1 = x.2)
    (hk : ∀ T' H', (∀ x ∈ keepG m σ.length p (vRow p q.n (natsOf o)), Abs.look T' x.1 = x.2) → GF L j jc σ { q with done := (gDo L q.t o s).done, fin := (gDo L q.t o s).fin } H' p c → Q (.exit 4) ⟨T', H'⟩) :
    wpC Try.prog L0 112 (.loop l0_impl_RunGlobal) Q ⟨T, H⟩ := by
  refine loop_intro (fun i : Nat × List AB => ⟨keepG m σ.length p (vRow p q.n (natsOf o)) ++ [(65, vRow p q.n (natsOf o)), (66, .i .i64 o.length), (67, .i .i64 i.1)], i.2⟩)
    (fun i => i.1 ≤ o.length ∧ GF L j jc σ { q with done := (gDo L q.t (o.take i.1) s).done, fin := (gDo L q.t (o.take i.1) s).fin } i.2 p c) (fun i => o.length - i.1) (0, H) ⟨Nat.zero_le _, by
      rw [List.take_zero]
      have : q = { q with done := (gDo L q.t [] s).done, fin := (gDo L q.t [] s).fin } := by
        cases q; simp only at hq1 hq2; subst hq1 hq2; rfl
      rw [← this]; exact hF⟩ (Wk.keep hT) ?_
  rintro ⟨k, H1⟩ ⟨hk1, hF1⟩
  simp only at hk1 hF1
  simp only [l0_impl_RunGlobal, keepG, List.cons_append, List.nil_append, not_true_eq_false, not_false_eq_true, decide_true, decide_false, Bool.not_true, Bool.not_false, false_implies, true_implies, and_true, true_and, Bool.false_eq_true, Bool.true_eq_false, implies_true, Bool.not_not, Classical.not_not, go_sem, Int.reduceToNat, List.take_nil, Nat.zero_mul, Nat.reduceEqDiff, Nat.reduceAdd, Nat.reduceLT, Nat.reduceLeDiff, Nat.reduceMul, ↓reduceIte, reduceCtorEq]
  refine ⟨fun hlt => ?_, fun hge => ?_⟩
  · have hne : natsOf o ≠ [] := fun e => by
      have := congrArg List.length e
      rw [natsOf_len, List.length_nil] at this; omega
    have hv : vRow p q.n (natsOf o) = .sl (p (q.n + 6)) 0 o.length o.length := by rw [vRow, if_neg hne, natsOf_len]
    have hok := ho _ (List.getElem_mem hlt)
    have hlen := gDo_len (L := L) (now := q.t) (o.take k) s
    have hsn := gDo_snoc (L := L) (now := q.t) (o.take k) o[k] s
    rw [← List.take_succ_eq_append_getElem hlt] at hsn
    have hnk : (o.take k).Nodup := hnd.sublist (List.take_sublist ..)
    have hnin : o[k] ∉ o.take k := fun hm => by
      obtain ⟨r, hr, e⟩ := List.getElem_of_mem hm
      rw [List.length_take] at hr
      rw [List.getElem_take] at e
      exact List.pairwise_iff_getElem.1 hnd r k (by omega) hlt (by omega) e
    have hgd := (gDo_get (L := L) (now := q.t) (s := s) hnk (fun i hi => by have := ho i (List.mem_of_mem_take hi); omega) o[k]).1
    rw [if_neg hnin, Int.add_zero] at hgd
    have hb1 := hb o[k] hok
    generalize gDo L q.t (o.take k) s = s1 at hF1 hlen hsn hgd
    have d1 : o[k] < s1.done.length := by omega
    have d2 : o[k] < s1.fin.length := by omega
    have gd : gI s1.done o[k] = s1.done[o[k]] := by simp [gI, List.getD_eq_getElem?_getD, d1]
    have gL : L.getD o[k] default = L[o[k]] := by simp [List.getD_eq_getElem?_getD, hok]
    have hns : ∀ v, o[k] < (s1.done.set o[k] v).length := fun v => by rw [List.length_set]; exact d1
    have gs : (s1.done.set o[k] (s1.done[o[k]] + 1))[o[k]]'(hns _) = s1.done[o[k]] + 1 := List.getElem_set_self ..
    have hbox := hF1.box
    have c0 := hF1.a0
    have c1 := hF1.a1
    have c3 := hF1.a3
    have c4 := hF1.a4
    have cR := hF1.aRow (k := q.n) hR (by simp only; rw [hRn]; exact hne)
    simp only at c0 c1 c3 c4 cR
    rw [hRn] at cR
    have rk : rd (encInt.row (natsOf o)) k = .i .i64 (o[k] : Nat) := by
      have hkl : k < (natsOf o).length := by rw [natsOf_len]; exact hlt
      rw [rdI hkl, natsOf_get hkl]
    have hF2 := hF1.setDone (s1.done.set o[k] (s1.done[o[k]] + 1))
    have lN : (natsOf o).length = o.length := natsOf_len o
    have l1' := hF2.lay.lt (i := 1) rfl
    have e2a := hF2.a0
    have e2b := hF2.a1
    have e2c := hF2.a3
    have e2d := hF2.a4
    have e2e := hF2.box
    simp only at e2a e2b e2c e2d
    have hjc := hF1.base.cells hj
    have hjc2 := hF2.base.cells hj
    simp only [hv, c0, c1, c3, c4, cR, hbox, rk, lenI, lN, rdI d1, splI d1, e2a, e2b, e2c, e2d, e2e, rdI (hns _), gs, onC_of hjc2, rdJ3 hok, lenJ, List.length_set, hlen, h1, h2, splI d2, not_true_eq_false, not_false_eq_true, decide_true, decide_false, Bool.not_true, Bool.not_false, false_implies, true_implies, and_true, true_and, Bool.false_eq_true, Bool.true_eq_false, implies_true, Bool.not_not, Classical.not_not, go_sem, Int.reduceToNat, List.take_nil, Nat.zero_mul, Nat.reduceEqDiff, Nat.reduceAdd, Nat.reduceLT, Nat.reduceLeDiff, Nat.reduceMul, ↓reduceIte, reduceCtorEq]
    have hbd : -1000000 ≤ s1.done[o[k]] ∧ s1.done[o[k]] ≤ 1000000 := by rw [← gd]; omega
    repeat refine ⟨by omega, ?_⟩
    refine ⟨fun he => ?_, fun he => ?_⟩
    · repeat refine ⟨by omega, ?_⟩
      have hF3 := hF2.setFin (s1.fin.set o[k] ((q.t : Int) + 1))
      simp only at hF3
      rw [Nat.mul_one] at hF3
      refine ⟨(k + 1, _), ⟨⟨by simp only; omega, ?_⟩, by simp only; omega⟩, Wk.keep ?_⟩
      · simp only [hsn]
        unfold gDo1
        simp only [gd, gL]
        rw [if_pos he]
        exact hF3
      · intro x hx
        simp only [List.mem_cons, List.not_mem_nil, or_false] at hx
        rcases hx with rfl | rfl | rfl | rfl | rfl | rfl | rfl | rfl | rfl <;> simp [look_cons]
    · refine ⟨by omega, (k + 1, _), ⟨⟨by simp only; omega, ?_⟩, by simp only; omega⟩, Wk.keep ?_⟩
      · simp only [hsn]
        unfold gDo1
        simp only [gd, gL, he, if_false]
        exact hF2
      · intro x hx
        simp only [List.mem_cons, List.not_mem_nil, or_false] at hx
        rcases hx with rfl | rfl | rfl | rfl | rfl | rfl | rfl | rfl | rfl <;> simp [look_cons]
  · have e : k = o.length := by omega
    subst e
    rw [List.take_length] at hF1
    refine hk _ _ ?_ hF1
    intro x hx
    simp only [keepG, List.mem_cons, List.not_mem_nil, or_false] at hx
    rcases hx with rfl | rfl | rfl | rfl | rfl | rfl <;> simp [look_cons]
def vCur (p c : Nat → Nat) (W : List Int) : AV := if W = [] then .sn else .sl (p 5) 0 W.length (c 5)
theorem rdyUp_lt {done : List Int} {now : Nat} {x : Int} (h : x ∈ rdyUp L done now L.length) : 0 ≤ x ∧ x < (L.length : Int) := by
  obtain ⟨i, rfl, h1, _⟩ := rdyUp_mem.1 h
  omega
theorem rg_collect {m L0 : Nat} {Q : Exit → St → Prop} {T : List (Nat × AV)} (hl : L.length ≤ 1000) (hj : cellsOf σ j = some (encJob.row L)) (hd : q.done.length = L.length) (hF : GF L j jc σ q H p c) (hq : q.cur = [])
    (hT : ∀ x ∈ keepG m σ.length p .sn ++ [(43, .i .i64 L.length), (44, .i .i64 0)], Abs.look T x.1 = x.2)
    (hk : ∀ T' H' p' c', (∀ x ∈ keepG m σ.length p' (vCur p' c' (rdyUp L q.done q.t L.length)), Abs.look T' x.1 = x.2) → GF L j jc σ { q with cur := rdyUp L q.done q.t L.length } H' p' c' → Q (.exit 2) ⟨T', H'⟩) :
    wpC Try.prog L0 112 (.loop l1_impl_RunGlobal) Q ⟨T, H⟩ := by
  refine loop_intro (fun i : Nat × List AB × (Nat → Nat) × (Nat → Nat) => ⟨keepG m σ.length i.2.2.1 (vCur i.2.2.1 i.2.2.2 (rdyUp L q.done q.t i.1)) ++ [(43, .i .i64 L.length), (44, .i .i64 i.1)], i.2.1⟩)
    (fun i => i.1 ≤ L.length ∧ GF L j jc σ { q with cur := rdyUp L q.done q.t i.1 } i.2.1 i.2.2.1 i.2.2.2) (fun i => L.length - i.1) (0, H, p, c) ⟨Nat.zero_le _, by
      have : q = { q with cur := rdyUp L q.done q.t 0 } := by cases q; simp only at hq; subst hq; rfl
      rw [← this]; exact hF⟩ (Wk.keep hT) ?_
  rintro ⟨k, H1, p1, c1⟩ ⟨hk1, hF1⟩
  simp only at hk1 hF1
  have hsucc := rdyUp_succ (L := L) (done := q.done) (now := q.t) k
  have hle := rdyUp_le (L := L) (done := q.done) (now := q.t) k
  simp only [l1_impl_RunGlobal, keepG, List.cons_append, List.nil_append, not_true_eq_false, not_false_eq_true, decide_true, decide_false, Bool.not_true, Bool.not_false, false_implies, true_implies, and_true, true_and, Bool.false_eq_true, Bool.true_eq_false, implies_true, Bool.not_not, Classical.not_not, go_sem, Int.reduceToNat, List.take_nil, Nat.zero_mul, Nat.reduceEqDiff, Nat.reduceAdd, Nat.reduceLT, Nat.reduceLeDiff, Nat.reduceMul, ↓reduceIte, reduceCtorEq]
  refine ⟨fun hlt => ?_, fun hge => ?_⟩
  · refine impl_machine_ready_ (hF1.mach hj hd) k hlt ?_
    simp only [not_true_eq_false, not_false_eq_true, decide_true, decide_false, Bool.not_true, Bool.not_false, false_implies, true_implies, and_true, true_and, Bool.false_eq_true, Bool.true_eq_false, implies_true, Bool.not_not, Classical.not_not, go_sem, Int.reduceToNat, List.take_nil, Nat.zero_mul, Nat.reduceEqDiff, Nat.reduceAdd, Nat.reduceLT, Nat.reduceLeDiff, Nat.reduceMul, ↓reduceIte, reduceCtorEq]
    generalize hW : rdyUp L q.done q.t k = W at hF1 hsucc hle
    refine bc_of (fun hr => ?_) (fun hr => ?_)
    · rw [if_pos hr] at hsucc
      have hne2 : W ++ [(k : Int)] ≠ [] := by simp
      by_cases hW0 : W = []
      · subst hW0
        have hv : vCur p1 c1 [] = .sn := rfl
        simp only [hv, at_new0, not_true_eq_false, not_false_eq_true, decide_true, decide_false, Bool.not_true, Bool.not_false, false_implies, true_implies, and_true, true_and, Bool.false_eq_true, Bool.true_eq_false, implies_true, Bool.not_not, Classical.not_not, go_sem, Int.reduceToNat, List.take_nil, Nat.zero_mul, Nat.reduceEqDiff, Nat.reduceAdd, Nat.reduceLT, Nat.reduceLeDiff, Nat.reduceMul, ↓reduceIte, reduceCtorEq]
        intro cap hcap
        have hG := hF1.cur0 rfl [(k : Int)] (by simp) [.rw ty_int [.i .i64 k] 1] cap
        rw [Nat.mul_one] at hG
        refine ⟨by omega, (k + 1, _, up p1 5 (H1.length + 1), up c1 5 cap), ⟨⟨by simp only; omega, ?_⟩, by simp only; omega⟩, Wk.keep ?_⟩
        · simp only [hsucc]
          exact hG
        · intro x hx
          simp only [hsucc, List.mem_cons, List.not_mem_nil, or_false] at hx
          rcases hx with rfl | rfl | rfl | rfl | rfl | rfl | rfl | rfl <;> simp [look_cons, up, vCur]
      · have hv : vCur p1 c1 W = .sl (p1 5) 0 W.length (c1 5) := if_neg hW0
        have a5 := hF1.a5 hW0
        simp only at a5
        have f1 : ∀ one : AB, (H1 ++ [one])[p1 5]? = some (.rw ty_int (encInt.row W) (c1 5 * 1)) := fun one => at_old a5 _
        simp only [hv, at_new0, f1, lenI, not_true_eq_false, not_false_eq_true, decide_true, decide_false, Bool.not_true, Bool.not_false, false_implies, true_implies, and_true, true_and, Bool.false_eq_true, Bool.true_eq_false, implies_true, Bool.not_not, Classical.not_not, go_sem, Int.reduceToNat, List.take_nil, Nat.zero_mul, Nat.reduceEqDiff, Nat.reduceAdd, Nat.reduceLT, Nat.reduceLeDiff, Nat.reduceMul, ↓reduceIte, reduceCtorEq]
        refine ⟨by omega, fun cap hcap => ?_⟩
        have hG := hF1.cur1 hW0 (W ++ [(k : Int)]) hne2 [.rw ty_int [.i .i64 k] 1] cap
        rw [Nat.mul_one] at hG
        rw [takeI, appI]
        refine ⟨by omega, (k + 1, _, up p1 5 (H1.length + 1), up c1 5 cap), ⟨⟨by simp only; omega, ?_⟩, by simp only; omega⟩, Wk.keep ?_⟩
        · simp only [hsucc]
          exact hG
        · intro x hx
          simp only [hsucc, List.mem_cons, List.not_mem_nil, or_false] at hx
          rcases hx with rfl | rfl | rfl | rfl | rfl | rfl | rfl | rfl <;> simp [look_cons, up, vCur]
    · rw [if_neg (by rw [hr]; decide)] at hsucc
      refine ⟨by omega, (k + 1, H1, p1, c1), ⟨⟨by simp only; omega, by simp only [hsucc]; exact hF1⟩, by simp only; omega⟩, Wk.keep ?_⟩
      intro x hx
      simp only [hsucc, List.mem_cons, List.not_mem_nil, or_false] at hx
      rcases hx with rfl | rfl | rfl | rfl | rfl | rfl | rfl | rfl <;> simp [look_cons]
  · have e : k = L.length := by omega
    subst e
    refine hk _ _ _ _ ?_ hF1
    intro x hx
    simp only [keepG, List.mem_cons, List.not_mem_nil, or_false] at hx
    rcases hx with rfl | rfl | rfl | rfl | rfl | rfl <;> simp [look_cons]
end
end Go.Proofs.Ytmphblbpofnpaaa
