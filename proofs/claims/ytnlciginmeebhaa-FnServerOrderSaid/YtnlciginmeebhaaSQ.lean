import Derived.Test.YtnlciginmeebhaaSP
import Derived.Test.YtnlciginmeebhaaS8
import Derived.Test.YtnlciginmeebhaaM43
import Derived.Test.YtnlciginmeebhaaE7
namespace Go.Proofs.Ytnlciginmeebhaa
open Go.Abs Go.Ds
set_option linter.unusedSimpArgs false
set_option linter.unusedVariables false
set_option maxRecDepth 20000
set_option maxHeartbeats 2000000
def restOf (A : List Arr) (s : Sv) : Int := if s.at_ < s.came then (gA A s.at_).e - s.done else 0
def cellsSt (A : List Arr) (s : Sv) : List AV := [.i .i64 s.left, .i .i64 s.dl, .i .i64 s.came, .i .i64 s.at_, .i .i64 (restOf A s)]
theorem cellsSt_eq (A : List Arr) (s : Sv) : cellsSt A s = [.i .i64 s.left, .i .i64 s.dl, .i .i64 s.came, .i .i64 s.at_, .i .i64 (restOf A s)] := rfl
structure SvR (x : Srv) (A : List Arr) (s : Sv) : Prop where
  ok : SvOk x A s
  dl : s.dl ≤ 100000
  id : s.came ≤ s.at_ → s.done = 0
theorem spec_l5Arrive0 (x : Srv) (A : List Arr) (s : Sv) (now : Int) (hx : x.ok) (hA : A.length ≤ 1000) (hs : SvR x A s) (hn : 0 ≤ now ∧ now ≤ 1000) (c : Nat) :
    CallWp Try.prog n_spec_l5Arrive [.agg (cellsSt A s), .agg (encSrv.f x), .sl 0 0 A.length c, .i .i64 now] [.ro (encArr.row A)] (fun y σ => y = .agg (cellsSt A (admS x A now s)) ∧ σ = [.ro (encArr.row A)]) := by
  have hx2 := hx
  unfold Srv.ok at hx2
  refine call_spec_l5Arrive (by simp) ?_
  simp only [c_spec_l5Arrive, encSvf, cellsSt_eq, not_true_eq_false, not_false_eq_true, decide_true, decide_false, Bool.not_true, Bool.not_false, false_implies, true_implies, and_true, true_and, Bool.false_eq_true, Bool.true_eq_false, implies_true, Bool.not_not, Classical.not_not, go_sem, Int.reduceToNat, List.take_nil, Nat.zero_mul, Nat.reduceEqDiff, Nat.reduceAdd, Nat.reduceLT, Nat.reduceLeDiff, Nat.reduceMul, ↓reduceIte, reduceCtorEq]
  refine loop_intro (fun s' : Sv => ⟨[(2, .sl 0 0 A.length c), (3, .i .i64 now), (4, .p 1 0), (5, .p 2 0), (8, .p 3 0)], [.ro (encArr.row A), .rw ty_spec_l5State (cellsSt A s') 5, .rw ty_impl_Server [.i .i64 x.B, .i .i64 x.P] 2, .rw ty_spec_l5State [.i .i64 0, .i .i64 0, .i .i64 0, .i .i64 0, .i .i64 0] 5]⟩)
    (fun s' => SvR x A s' ∧ admS x A now s' = admS x A now s) (fun s' => A.length - s'.came) s ⟨hs, rfl⟩ (by simp only [cellsSt_eq]; exact Wk.pick [0, 1, 2, 3]) ?_
  rintro s' ⟨hs', he⟩
  obtain ⟨⟨h1, h2, h3, h4, h5, h6, h7⟩, h8, h9⟩ := hs'
  have b1 : 0 ≤ s'.left * x.P ∧ s'.left * x.P ≤ 12 * 12 := ⟨Int.mul_nonneg (by omega) (by omega), Int.mul_le_mul (by omega) (by omega) (by omega) (by omega)⟩
  have b2 : -1000 * 12 ≤ (s'.dl - now) * x.B ∧ (s'.dl - now) * x.B ≤ 1212000 := by
    have e1 : (s'.dl - now + 1000) * x.B ≤ 101000 * 12 := Int.mul_le_mul (by omega) (by omega) (by omega) (by omega)
    have e2 : 0 ≤ (s'.dl - now + 1000) * x.B := Int.mul_nonneg (by omega) (by omega)
    rw [Int.add_mul] at e1 e2
    omega
  by_cases hc : s'.came < A.length
  rotate_left
  · rw [admit_stop (fun g => hc g.1)] at he
    simp only [l0_spec_l5Arrive, cellsSt_eq, not_true_eq_false, not_false_eq_true, decide_true, decide_false, Bool.not_true, Bool.not_false, false_implies, true_implies, and_true, true_and, Bool.false_eq_true, Bool.true_eq_false, implies_true, Bool.not_not, Classical.not_not, go_sem, Int.reduceToNat, List.take_nil, Nat.zero_mul, Nat.reduceEqDiff, Nat.reduceAdd, Nat.reduceLT, Nat.reduceLeDiff, Nat.reduceMul, ↓reduceIte, reduceCtorEq]
    exact ⟨fun h => absurd h hc, fun _ => Fin.pick [0] (.agg [.i .i64 s'.left, .i .i64 s'.dl, .i .i64 s'.came, .i .i64 s'.at_, .i .i64 (restOf A s')]) _ ⟨by rw [← he], rfl⟩⟩
  have ga : gA A s'.came = A[s'.came] := gA_mem hc
  simp only [l0_spec_l5Arrive, cellsSt_eq, rdA0 hc, rdA1 hc, lenA, not_true_eq_false, not_false_eq_true, decide_true, decide_false, Bool.not_true, Bool.not_false, false_implies, true_implies, and_true, true_and, Bool.false_eq_true, Bool.true_eq_false, implies_true, Bool.not_not, Classical.not_not, go_sem, Int.reduceToNat, List.take_nil, Nat.zero_mul, Nat.reduceEqDiff, Nat.reduceAdd, Nat.reduceLT, Nat.reduceLeDiff, Nat.reduceMul, ↓reduceIte, reduceCtorEq]
  refine ⟨fun _ => ⟨hc, by omega, fun ht => ?_, fun ht => ?_⟩, fun h => absurd hc h⟩
  · have hst := admit_step (x := x) (now := now) hc (by rw [ga]; exact ht)
    have hok := SvOk.comes (now := now) ⟨h1, h2, h3, h4, h5, h6, h7⟩ hx hn.1 hc
    have eca := comes_eq x now s'
    have hdl : (comes x now s').dl ≤ 100000 := by
      unfold comes; split <;> simp only <;> omega
    have hSR : SvR x A (comes x now s') := ⟨hok, hdl, fun h => by rw [eca.1, eca.2.2] at h; omega⟩
    have hrest : restOf A (comes x now s') = if s'.at_ = s'.came then A[s'.came].e else restOf A s' := by
      unfold restOf
      rw [eca.1, eca.2.1, eca.2.2, if_pos (by omega)]
      by_cases e : s'.at_ = s'.came
      · rw [if_pos e, e, ga, h9 (by omega)]; omega
      · rw [if_neg e, if_pos (by omega)]
    have hdec : A.length - (comes x now s').came < A.length - s'.came := by rw [eca.2.2]; omega
    refine ⟨fun hid => ⟨by omega, by omega, by omega, fun hr => ⟨by omega, hc, by omega, by omega, comes x now s', ⟨⟨hSR, hst.trans he⟩, hdec⟩, ?_⟩, fun hr => ⟨hc, by omega, by omega, comes x now s', ⟨⟨hSR, hst.trans he⟩, hdec⟩, ?_⟩⟩, fun hid => ⟨by omega, comes x now s', ⟨⟨hSR, hst.trans he⟩, hdec⟩, ?_⟩⟩
    · rw [hrest, if_pos hid]
      unfold comes; rw [if_pos ⟨by omega, hr⟩]
      exact Wk.keep (by simp [look_cons])
    · rw [hrest, if_pos hid]
      unfold comes; rw [if_neg (fun g => hr g.2)]
      exact Wk.keep (by simp [look_cons])
    · rw [hrest, if_neg hid]
      unfold comes; rw [if_neg (fun g => by have := g.1; omega)]
      exact Wk.keep (by simp [look_cons])
  · rw [admit_stop (fun g => ht (by rw [← ga]; exact g.2))] at he
    exact Fin.pick [0] (.agg [.i .i64 s'.left, .i .i64 s'.dl, .i .i64 s'.came, .i .i64 s'.at_, .i .i64 (restOf A s')]) _ ⟨by rw [← he], rfl⟩
theorem spec_l5Arrive_ {x : Srv} {A : List Arr} {s : Sv} {now : Int} (hx : x.ok) (hA : A.length ≤ 1000) (hs : SvR x A s) (hn : 0 ≤ now ∧ now ≤ 1000) {v : AV} {σ : List AB} (h : Rd encArr σ v A) {K : AV → List AB → Prop} (hk : K (.agg (cellsSt A (admS x A now s))) σ) :
    CallWp Try.prog n_spec_l5Arrive [.agg (cellsSt A s), .agg (encSrv.f x), v, .i .i64 now] σ K :=
  call_rds _ (rds1 h.r) (fun c => [.agg (cellsSt A s), .agg (encSrv.f x), .sl 0 0 A.length (c 0), .i .i64 now]) (fun c => spec_l5Arrive0 x A s now hx hA hs hn (c 0)) (fun ν c h => ⟨.inl rfl, .inl rfl, h.1, .inl rfl, trivial⟩) (fun _ => rfl) rfl hk
theorem spec_l5Serve0 (x : Srv) (A : List Arr) (s : Sv) (hx : x.ok) (hA : arrLegal A) (hs : SvR x A s) (hp : pend s = true) (c : Nat) :
    CallWp Try.prog n_spec_l5Serve [.agg (cellsSt A s), .agg (encSrv.f x), .sl 0 0 A.length c] [.ro (encArr.row A)] (fun y σ => y = .agg (cellsSt A (Go.Ds.serve x A s)) ∧ σ = [.ro (encArr.row A)]) := by
  have hx2 := hx
  unfold Srv.ok at hx2
  have hp := of_decide_eq_true hp
  obtain ⟨⟨h1, h2, h3, h4, h5, h6, h7⟩, h8, h9⟩ := hs
  have hat : s.at_ < A.length := by omega
  have hok := gA_ok hA hat
  have hl20 := hA.1
  have hr : restOf A s = (gA A s.at_).e - s.done := by unfold restOf; rw [if_pos hp]
  refine call_spec_l5Serve (by simp) ?_
  simp only [c_spec_l5Serve, encSvf, cellsSt_eq, not_true_eq_false, not_false_eq_true, decide_true, decide_false, Bool.not_true, Bool.not_false, false_implies, true_implies, and_true, true_and, Bool.false_eq_true, Bool.true_eq_false, implies_true, Bool.not_not, Classical.not_not, go_sem, Int.reduceToNat, List.take_nil, Nat.zero_mul, Nat.reduceEqDiff, Nat.reduceAdd, Nat.reduceLT, Nat.reduceLeDiff, Nat.reduceMul, ↓reduceIte, reduceCtorEq]
  refine ⟨by omega, by omega, ?_⟩
  have hends : ends A s = decide (restOf A s - 1 = 0) := by unfold ends; exact decide_eq_decide.2 (by omega)
  have e2 : (Go.Ds.serve x A s).came = s.came := rfl
  have e3 : (Go.Ds.serve x A s).at_ = if ends A s = true then s.at_ + 1 else s.at_ := rfl
  have e4 : (Go.Ds.serve x A s).done = if ends A s = true then 0 else s.done + 1 := rfl
  have e5 : (Go.Ds.serve x A s).left = if s.left - 1 = 0 then x.B else s.left - 1 := rfl
  have e6 : (Go.Ds.serve x A s).dl = if s.left - 1 = 0 then s.dl + x.P else s.dl := rfl
  have e7 : restOf A (Go.Ds.serve x A s) = if restOf A s - 1 = 0 then (if s.at_ + 1 < s.came then (gA A (s.at_ + 1)).e else 0) else restOf A s - 1 := by
    unfold restOf
    rw [e2, e3, e4, hends]
    by_cases h0 : restOf A s - 1 = 0
    · simp only [h0, decide_true, if_true]
      have : (gA A s.at_).e - s.done - 1 = 0 := by omega
      rw [if_pos hp, if_pos this]; simp
    · simp only [h0, decide_false, Bool.false_eq_true, if_false]
      have : ¬ (gA A s.at_).e - s.done - 1 = 0 := by omega
      rw [if_pos hp, if_pos hp, if_neg this]; omega
  refine seq_join (fun _ : Unit => ⟨[(2, .sl 0 0 A.length c), (3, .p 1 0), (4, .p 2 0), (6, .p 3 0)], [.ro (encArr.row A), .rw ty_spec_l5State [.i .i64 (s.left - 1), .i .i64 s.dl, .i .i64 s.came, .i .i64 (Go.Ds.serve x A s).at_, .i .i64 (restOf A (Go.Ds.serve x A s))] 5, .rw ty_impl_Server [.i .i64 x.B, .i .i64 x.P] 2, .rw ty_spec_l5State [.i .i64 0, .i .i64 0, .i .i64 0, .i .i64 0, .i .i64 0] 5]⟩)
    (fun _ => True) ?_ fun _ _ => ?_
  · rw [e3, e7, hends]
    by_cases h0 : restOf A s - 1 = 0
    · have h0' : restOf A s - 1 = 0 := h0
      by_cases h1' : s.at_ + 1 < s.came
      · have hat1 : s.at_ + 1 < A.length := by omega
        have ga : gA A (s.at_ + 1) = A[s.at_ + 1] := gA_mem hat1
        have hc1 : ((s.at_ : Int) + 1).toNat = s.at_ + 1 := by omega
        have hc2 : ((s.at_ + 1 : Nat) : Int) = (s.at_ : Int) + 1 := rfl
        simp only [h0, h1', ga, hc1, hc2, rdA1 hat1, lenA, decide_true, if_true, not_true_eq_false, not_false_eq_true, decide_true, decide_false, Bool.not_true, Bool.not_false, false_implies, true_implies, and_true, true_and, Bool.false_eq_true, Bool.true_eq_false, implies_true, Bool.not_not, Classical.not_not, go_sem, Int.reduceToNat, List.take_nil, Nat.zero_mul, Nat.reduceEqDiff, Nat.reduceAdd, Nat.reduceLT, Nat.reduceLeDiff, Nat.reduceMul, ↓reduceIte, reduceCtorEq]
        exact ⟨by omega, fun _ => ⟨by omega, by omega, kJ_intro () trivial (Wk.keep (by simp [look_cons]))⟩, fun h => absurd (by omega) h⟩
      · have hc2 : ((s.at_ + 1 : Nat) : Int) = (s.at_ : Int) + 1 := rfl
        simp only [h0, h1', hc2, decide_true, if_true, if_false, not_true_eq_false, not_false_eq_true, decide_true, decide_false, Bool.not_true, Bool.not_false, false_implies, true_implies, and_true, true_and, Bool.false_eq_true, Bool.true_eq_false, implies_true, Bool.not_not, Classical.not_not, go_sem, Int.reduceToNat, List.take_nil, Nat.zero_mul, Nat.reduceEqDiff, Nat.reduceAdd, Nat.reduceLT, Nat.reduceLeDiff, Nat.reduceMul, ↓reduceIte, reduceCtorEq]
        exact ⟨by omega, fun h => absurd h (by omega), fun h => kJ_intro () trivial (Wk.keep (by simp [look_cons]))⟩
    · simp only [h0, decide_false, Bool.false_eq_true, if_false, not_true_eq_false, not_false_eq_true, decide_true, decide_false, Bool.not_true, Bool.not_false, false_implies, true_implies, and_true, true_and, Bool.false_eq_true, Bool.true_eq_false, implies_true, Bool.not_not, Classical.not_not, go_sem, Int.reduceToNat, List.take_nil, Nat.zero_mul, Nat.reduceEqDiff, Nat.reduceAdd, Nat.reduceLT, Nat.reduceLeDiff, Nat.reduceMul, ↓reduceIte, reduceCtorEq]
      exact kJ_intro () trivial (Wk.keep (by simp [look_cons]))
  · generalize (Go.Ds.serve x A s).at_ = a' at *
    generalize restOf A (Go.Ds.serve x A s) = r' at *
    refine seq_join (fun _ : Unit => ⟨[(3, .p 1 0), (6, .p 3 0)], [.ro (encArr.row A), .rw ty_spec_l5State [.i .i64 (Go.Ds.serve x A s).left, .i .i64 (Go.Ds.serve x A s).dl, .i .i64 s.came, .i .i64 a', .i .i64 r'] 5, .rw ty_impl_Server [.i .i64 x.B, .i .i64 x.P] 2, .rw ty_spec_l5State [.i .i64 0, .i .i64 0, .i .i64 0, .i .i64 0, .i .i64 0] 5]⟩)
      (fun _ => True) ?_ fun _ _ => ?_
    · rw [e5, e6]
      simp only [not_true_eq_false, not_false_eq_true, decide_true, decide_false, Bool.not_true, Bool.not_false, false_implies, true_implies, and_true, true_and, Bool.false_eq_true, Bool.true_eq_false, implies_true, Bool.not_not, Classical.not_not, go_sem, Int.reduceToNat, List.take_nil, Nat.zero_mul, Nat.reduceEqDiff, Nat.reduceAdd, Nat.reduceLT, Nat.reduceLeDiff, Nat.reduceMul, ↓reduceIte, reduceCtorEq]
      refine ⟨fun h0 => ⟨by omega, kJ_intro () trivial ?_⟩, fun h0 => kJ_intro () trivial ?_⟩
      · rw [if_pos h0, if_pos h0]; exact Wk.keep (by simp [look_cons])
      · rw [if_neg h0, if_neg h0]; exact Wk.keep (by simp [look_cons])
    · simp only [not_true_eq_false, not_false_eq_true, decide_true, decide_false, Bool.not_true, Bool.not_false, false_implies, true_implies, and_true, true_and, Bool.false_eq_true, Bool.true_eq_false, implies_true, Bool.not_not, Classical.not_not, go_sem, Int.reduceToNat, List.take_nil, Nat.zero_mul, Nat.reduceEqDiff, Nat.reduceAdd, Nat.reduceLT, Nat.reduceLeDiff, Nat.reduceMul, ↓reduceIte, reduceCtorEq]
      exact Fin.pick [0] (.agg [.i .i64 (Go.Ds.serve x A s).left, .i .i64 (Go.Ds.serve x A s).dl, .i .i64 s.came, .i .i64 a', .i .i64 r']) _ ⟨rfl, rfl⟩
theorem spec_l5Serve_ {x : Srv} {A : List Arr} {s : Sv} (hx : x.ok) (hA : arrLegal A) (hs : SvR x A s) (hp : pend s = true) {v : AV} {σ : List AB} (h : Rd encArr σ v A) {K : AV → List AB → Prop} (hk : K (.agg (cellsSt A (Go.Ds.serve x A s))) σ) :
    CallWp Try.prog n_spec_l5Serve [.agg (cellsSt A s), .agg (encSrv.f x), v] σ K :=
  call_rds _ (rds1 h.r) (fun c => [.agg (cellsSt A s), .agg (encSrv.f x), .sl 0 0 A.length (c 0)]) (fun c => spec_l5Serve0 x A s hx hA hs hp (c 0)) (fun ν c h => ⟨.inl rfl, .inl rfl, h.1, trivial⟩) (fun _ => rfl) rfl hk
end Go.Proofs.Ytnlciginmeebhaa
/- Heaps that are known by labels: which block holds what, wherever it lies. -/
namespace Go.Proofs.Ytnlciginmeebhaa
open Go.Abs Go.Ds
set_option linter.unusedSimpArgs false
set_option linter.unusedVariables false
set_option maxRecDepth 20000
def up {α : Type} (f : Nat → α) (i : Nat) (a : α) : Nat → α := fun j => if j = i then a else f j
theorem up_eq {α : Type} (f : Nat → α) (i : Nat) (a : α) : up f i a i = a := if_pos rfl
theorem up_ne {α : Type} (f : Nat → α) {i j : Nat} (a : α) (h : j ≠ i) : up f i a j = f j := if_neg h
def Lay (N : Nat) (H : List AB) (p : Nat → Nat) (B : Nat → Option AB) : Prop :=
  (∀ i b, B i = some b → N ≤ p i ∧ H[p i]? = some b) ∧ ∀ i j bi bj, B i = some bi → B j = some bj → p i = p j → i = j
section
variable {N : Nat} {H : List AB} {p : Nat → Nat} {B B' : Nat → Option AB} {i : Nat} {b : AB}
theorem Lay.at (h : Lay N H p B) (hi : B i = some b) : H[p i]? = some b := (h.1 i b hi).2
theorem Lay.ge (h : Lay N H p B) (hi : B i = some b) : N ≤ p i := (h.1 i b hi).1
theorem Lay.lt (h : Lay N H p B) (hi : B i = some b) : p i < H.length := (List.getElem?_eq_some_iff.1 (h.at hi)).1
theorem Lay.mono (h : Lay N H p B) (hm : ∀ i b, B' i = some b → B i = some b) : Lay N H p B' :=
  ⟨fun i b hi => h.1 i b (hm i b hi), fun i j bi bj hi hj => h.2 i j bi bj (hm i bi hi) (hm j bj hj)⟩
theorem Lay.low (h : Lay N H p B) {n : Nat} (hn : n < N) (b : AB) : Lay N (H.set n b) p B := by
  refine ⟨fun i bi hi => ?_, h.2⟩
  have := h.1 i bi hi
  exact ⟨this.1, by rw [List.getElem?_set_ne (by omega)]; exact this.2⟩
theorem Lay.junk (h : Lay N H p B) (τ : List AB) : Lay N (H ++ τ) p B :=
  ⟨fun i bi hi => ⟨(h.1 i bi hi).1, by rw [List.getElem?_append_left (h.lt hi)]; exact h.at hi⟩, h.2⟩
theorem Lay.set (h : Lay N H p B) (hi : B i = some b) (b' : AB) : Lay N (H.set (p i) b') p (up B i (some b')) := by
  have hlt := h.lt hi
  have key : ∀ j bj, up B i (some b') j = some bj → ∃ bj', B j = some bj' := fun j bj hj => by
    by_cases e : j = i
    · subst e; exact ⟨b, hi⟩
    · rw [up_ne _ _ e] at hj; exact ⟨bj, hj⟩
  refine ⟨fun j bj hj => ?_, fun j k bj bk hj hk => ?_⟩
  · by_cases e : j = i
    · subst e
      rw [up_eq] at hj
      cases hj
      exact ⟨h.ge hi, List.getElem?_set_self hlt⟩
    · rw [up_ne _ _ e] at hj
      refine ⟨h.ge hj, ?_⟩
      rw [List.getElem?_set_ne (fun g => e (h.2 _ _ _ _ hj hi g.symm))]
      exact h.at hj
  · obtain ⟨bj', hj'⟩ := key j bj hj
    obtain ⟨bk', hk'⟩ := key k bk hk
    exact h.2 j k _ _ hj' hk'
theorem Lay.dead (h : Lay N H p B) (hi : B i = some b) (b' : AB) : Lay N (H.set (p i) b') p (up B i none) := by
  refine (h.set hi b').mono fun j bj hj => ?_
  by_cases e : j = i
  · subst e; rw [up_eq] at hj; cases hj
  · rw [up_ne _ _ e] at hj ⊢; exact hj
theorem Lay.put (h : Lay N H p B) (hN : N ≤ H.length) (i : Nat) (b : AB) (hi : B i = none) {n : Nat} (hn : n = H.length) : Lay N (H ++ [b]) (up p i n) (up B i (some b)) := by
  subst hn
  refine ⟨fun j bj hj => ?_, fun j k bj bk hj hk hp => ?_⟩
  · by_cases e : j = i
    · subst e
      rw [up_eq] at hj
      cases hj
      rw [up_eq]
      exact ⟨hN, by simp⟩
    · rw [up_ne _ _ e] at hj ⊢
      exact ⟨h.ge hj, by rw [List.getElem?_append_left (h.lt hj)]; exact h.at hj⟩
  · by_cases e : j = i
    · subst e
      by_cases e2 : k = j
      · exact e2.symm
      · rw [up_ne _ _ e2] at hk hp
        rw [up_eq] at hp
        have := h.lt hk; omega
    · rw [up_ne _ _ e] at hj hp
      by_cases e2 : k = i
      · subst e2
        rw [up_eq] at hp
        have := h.lt hj; omega
      · rw [up_ne _ _ e2] at hk hp
        exact h.2 _ _ _ _ hj hk hp
end
structure St5 where
  left : Int
  dl : Int
  come : Int
  head : Int
  rest : Int
  deriving Inhabited
def encSt5 : Enc St5 := ⟨fun s => [.i .i64 s.left, .i .i64 s.dl, .i .i64 s.come, .i .i64 s.head, .i .i64 s.rest], 5, fun _ => rfl, fun _ => rfl⟩
def st5 (A : List Arr) (s : Sv) : St5 := ⟨s.left, s.dl, s.came, s.at_, restOf A s⟩
theorem encSt5_st (A : List Arr) (s : Sv) : encSt5.f (st5 A s) = cellsSt A s := rfl
theorem lenSt (L : List St5) : (encSt5.row L).length = L.length * 5 := encSt5.row_length L
/-- What a run of the reference with servers holds in memory. -/
structure Q5 where
  lf : List Int
  ks : List Int
  W : List St5
  run : List Int
  fin : List Int
  ch : List Int
  rows : List (List Int)
  n : Nat
  nw : Bool
def vI (p c : Nat → Nat) (i n : Nat) : AV := if n = 0 then .sn else .sl (p i) 0 n (c i)
def sdC (p c : Nat → Nat) (R : List (List Int)) (n : Nat) : List AV := (List.range n).map fun k => .sl (p (k + 7)) 0 (Go.Ds.gR R k).length (c (k + 7))
def BB (q : Q5) (p c : Nat → Nat) : Nat → Option AB
  | 0 => some (.rw ty_int (encInt.row q.lf) (c 0 * 1))
  | 1 => some (.rw ty_int (encInt.row q.ks) (c 1 * 1))
  | 2 => if q.nw = true then none else some (.rw ty_spec_l5State (encSt5.row q.W) (c 2 * 5))
  | 3 => if q.run = [] then none else some (.rw ty_int (encInt.row q.run) (c 3 * 1))
  | 4 => if q.fin = [] then none else some (.rw ty_int (encInt.row q.fin) (c 4 * 1))
  | 5 => if q.ch = [] then none else some (.rw ty_int (encInt.row q.ch) (c 5 * 1))
  | 6 => if q.n = 0 then none else some (.rw ty_sl_int (sdC p c q.rows q.n) (c 6 * 1))
  | k + 7 => if k < q.rows.length then some (.rw ty_int (encInt.row (Go.Ds.gR q.rows k)) (c (k + 7) * 1)) else none
def outC (q : Q5) (p c : Nat → Nat) : List AV := [vI p c 3 q.run.length, vI p c 4 q.fin.length, vI p c 5 q.ch.length, vI p c 6 q.n]
structure F5 (σ : List AB) (q : Q5) (H : List AB) (p c : Nat → Nat) : Prop where
  base : ∀ m, m < σ.length → H[m]? = σ[m]?
  res : H[σ.length]? = some (.rw ty_impl_ServerRun [.sn, .sn, .sn, .sn] 4)
  out : H[σ.length + 1]? = some (.rw ty_impl_ServerRun (outC q p c) 4)
  lay : Lay (σ.length + 2) H p (BB q p c)
  len : σ.length + 2 ≤ H.length
section
variable {σ H : List AB} {q : Q5} {p c : Nat → Nat}
theorem vI_up (p c : Nat → Nat) {i j : Nat} (n a b : Nat) (h : j ≠ i) : vI (up p i a) (up c i b) j n = vI p c j n := by unfold vI; rw [up_ne _ _ h, up_ne _ _ h]
theorem F5.setl (h : F5 σ q H p c) {i : Nat} {b b' : AB} (hi : BB q p c i = some b) {q' : Q5} (ho : outC q' p c = outC q p c) (hB : ∀ j x, BB q' p c j = some x → up (BB q p c) i (some b') j = some x) : F5 σ q' (H.set (p i) b') p c := by
  have hg := h.lay.ge hi
  refine ⟨fun m hm => ?_, ?_, ?_, (h.lay.set hi b').mono hB, by rw [List.length_set]; exact h.len⟩
  · rw [List.getElem?_set_ne (by omega)]; exact h.base m hm
  · rw [List.getElem?_set_ne (by omega)]; exact h.res
  · rw [List.getElem?_set_ne (by omega), ho]; exact h.out
theorem BB_up {i j : Nat} (hi : i < 7) (h : j ≠ i) (a b : Nat) : BB q (up p i a) (up c i b) j = BB q p c j := by
  match j with
  | 0 | 1 | 2 | 3 | 4 | 5 => simp only [BB, up_ne _ _ h]
  | 6 =>
    have e : sdC (up p i a) (up c i b) q.rows q.n = sdC p c q.rows q.n := by
      unfold sdC
      apply List.map_congr_left
      intro k _
      rw [up_ne _ _ (by omega), up_ne _ _ (by omega)]
    simp only [BB, up_ne _ _ h, e]
  | k + 7 => simp only [BB, up_ne _ _ h]
theorem F5.app (h : F5 σ q H p c) {i : Nat} {b : AB} (hi : BB q p c i = some b) {q' : Q5} {c' : Nat → Nat} (one new : AB) (hB : ∀ j x, BB q' (up p i (H.length + 1)) c' j = some x → up (BB q p c) i (some new) j = some x) :
    (∀ m, m < σ.length → ((H ++ [one]).set (p i) .dead ++ [new])[m]? = σ[m]?) ∧ ((H ++ [one]).set (p i) .dead ++ [new])[σ.length]? = some (.rw ty_impl_ServerRun [.sn, .sn, .sn, .sn] 4) ∧
    ((H ++ [one]).set (p i) .dead ++ [new])[σ.length + 1]? = some (.rw ty_impl_ServerRun (outC q p c) 4) ∧ Lay (σ.length + 2) ((H ++ [one]).set (p i) .dead ++ [new]) (up p i (H.length + 1)) (BB q' (up p i (H.length + 1)) c') ∧ σ.length + 2 ≤ ((H ++ [one]).set (p i) .dead ++ [new]).length := by
  have hg := h.lay.ge hi
  have hl := h.lay.lt hi
  have hlen := h.len
  have old : ∀ m, m < σ.length + 2 → ((H ++ [one]).set (p i) .dead ++ [new])[m]? = H[m]? := fun m hm => by
    rw [List.getElem?_append_left (by rw [List.length_set, List.length_append]; omega), List.getElem?_set_ne (by omega), List.getElem?_append_left (by omega)]
  refine ⟨fun m hm => by rw [old m (by omega)]; exact h.base m hm, by rw [old _ (by omega)]; exact h.res, by rw [old _ (by omega)]; exact h.out, ?_, by simp only [List.length_append, List.length_set]; omega⟩
  have h1 := ((h.lay.junk [one]).dead hi .dead).put (by simp only [List.length_append, List.length_set]; omega) i new (up_eq _ _ _) (n := H.length + 1) (by simp)
  refine h1.mono fun j x hj => ?_
  have := hB j x hj
  by_cases e : j = i
  · subst e; rw [up_eq] at this ⊢; exact this
  · rw [up_ne _ _ e] at this ⊢; rw [up_ne _ _ e]; exact this
theorem F5.app0 (h : F5 σ q H p c) {i : Nat} (hi : BB q p c i = none) {q' : Q5} {c' : Nat → Nat} (τ : List AB) (new : AB) {n : Nat} (hn : n = H.length + τ.length) (hB : ∀ j x, BB q' (up p i n) c' j = some x → up (BB q p c) i (some new) j = some x) :
    (∀ m, m < σ.length → ((H ++ τ) ++ [new])[m]? = σ[m]?) ∧ ((H ++ τ) ++ [new])[σ.length]? = some (.rw ty_impl_ServerRun [.sn, .sn, .sn, .sn] 4) ∧
    ((H ++ τ) ++ [new])[σ.length + 1]? = some (.rw ty_impl_ServerRun (outC q p c) 4) ∧ Lay (σ.length + 2) ((H ++ τ) ++ [new]) (up p i n) (BB q' (up p i n) c') ∧ σ.length + 2 ≤ ((H ++ τ) ++ [new]).length := by
  have hlen := h.len
  have old : ∀ m, m < σ.length + 2 → ((H ++ τ) ++ [new])[m]? = H[m]? := fun m hm => by
    rw [List.getElem?_append_left (by rw [List.length_append]; omega), List.getElem?_append_left (by omega)]
  refine ⟨fun m hm => by rw [old m (by omega)]; exact h.base m hm, by rw [old _ (by omega)]; exact h.res, by rw [old _ (by omega)]; exact h.out, ?_, by simp only [List.length_append, List.length_cons, List.length_nil]; omega⟩
  exact ((h.lay.junk τ).put (by simp only [List.length_append]; omega) i new hi (by simpa using hn)).mono hB
theorem F5.mk1 {H' : List AB} {q' : Q5} {p' c' : Nat → Nat} {cs : List AV} (h : (∀ m, m < σ.length → H'[m]? = σ[m]?) ∧ H'[σ.length]? = some (.rw ty_impl_ServerRun [.sn, .sn, .sn, .sn] 4) ∧ H'[σ.length + 1]? = some (.rw ty_impl_ServerRun cs 4) ∧ Lay (σ.length + 2) H' p' (BB q' p' c') ∧ σ.length + 2 ≤ H'.length) :
    F5 σ q' (H'.set (σ.length + 1) (.rw ty_impl_ServerRun (outC q' p' c') 4)) p' c' := by
  obtain ⟨h1, h2, h3, h4, h5⟩ := h
  exact ⟨fun m hm => by rw [List.getElem?_set_ne (by omega)]; exact h1 m hm, by rw [List.getElem?_set_ne (by omega)]; exact h2, List.getElem?_set_self (by omega), h4.low (by omega) _, by rw [List.length_set]; exact h5⟩
theorem F5.mk0 {H' : List AB} {q' : Q5} {p' c' : Nat → Nat} {cs : List AV} (h : (∀ m, m < σ.length → H'[m]? = σ[m]?) ∧ H'[σ.length]? = some (.rw ty_impl_ServerRun [.sn, .sn, .sn, .sn] 4) ∧ H'[σ.length + 1]? = some (.rw ty_impl_ServerRun cs 4) ∧ Lay (σ.length + 2) H' p' (BB q' p' c') ∧ σ.length + 2 ≤ H'.length) (e : outC q' p' c' = cs) : F5 σ q' H' p' c' := by
  obtain ⟨h1, h2, h3, h4, h5⟩ := h
  exact ⟨h1, h2, by rw [e]; exact h3, h4, h5⟩
theorem F5.rd (h : F5 σ q H p c) {α : Type} {E : Enc α} {v : AV} {L : List α} (hr : Rd E σ v L) : Rd E H v L := by
  have hlen := h.len
  rcases hr with ⟨n, o, cap, cs, h1, h2, h3, h4⟩ | ⟨h1, h2, h3⟩
  · refine .inl ⟨n, o, cap, cs, h1, by omega, ?_, h4⟩
    unfold cellsOf at h3 ⊢
    rw [h.base n h2]; exact h3
  · exact .inr ⟨h1, h2, by omega⟩
theorem F5.ks_at (h : F5 σ q H p c) : H[p 1]? = some (.rw ty_int (encInt.row q.ks) (c 1 * 1)) := h.lay.at (i := 1) rfl
theorem F5.lf_at (h : F5 σ q H p c) : H[p 0]? = some (.rw ty_int (encInt.row q.lf) (c 0 * 1)) := h.lay.at (i := 0) rfl
theorem F5.W_at (h : F5 σ q H p c) (hn : q.nw = false := by rfl) : H[p 2]? = some (.rw ty_spec_l5State (encSt5.row q.W) (c 2 * 5)) := h.lay.at (i := 2) (if_neg (by rw [hn]; decide))
theorem F5.setW (h : F5 σ q H p c) (W' : List St5) (hn : q.nw = false := by rfl) : F5 σ { q with W := W' } (H.set (p 2) (.rw ty_spec_l5State (encSt5.row W') (c 2 * 5))) p c := by
  refine h.setl (i := 2) (b := .rw ty_spec_l5State (encSt5.row q.W) (c 2 * 5)) (if_neg (by rw [hn]; decide)) rfl fun j x hj => ?_
  by_cases e : j = 2
  · subst e; rw [up_eq]; simpa [BB, hn] using hj
  · rw [up_ne _ _ e, ← hj]
    unfold BB
    split <;> first | rfl | exact absurd rfl e
theorem F5.setLf (h : F5 σ q H p c) (l : List Int) : F5 σ { q with lf := l } (H.set (p 0) (.rw ty_int (encInt.row l) (c 0 * 1))) p c := by
  refine h.setl (i := 0) rfl rfl fun j x hj => ?_
  by_cases e : j = 0
  · subst e; rw [up_eq]; exact hj
  · rw [up_ne _ _ e, ← hj]
    unfold BB
    split <;> first | rfl | exact absurd rfl e
theorem F5.setFin (h : F5 σ q H p c) (hne : q.fin ≠ []) (l : List Int) (hl : l.length = q.fin.length) : F5 σ { q with fin := l } (H.set (p 4) (.rw ty_int (encInt.row l) (c 4 * 1))) p c := by
  have hne2 : l ≠ [] := fun e => hne (List.eq_nil_of_length_eq_zero (by rw [← hl, e]; rfl))
  refine h.setl (i := 4) (b := .rw ty_int (encInt.row q.fin) (c 4 * 1)) (by simp [BB, hne]) (by simp [outC, hl]) fun j x hj => ?_
  by_cases e : j = 4
  · subst e; rw [up_eq]; simpa [BB, hne2] using hj
  · rw [up_ne _ _ e, ← hj]
    unfold BB
    split <;> first | rfl | exact absurd rfl e
theorem F5.setRow (h : F5 σ q H p c) {k : Nat} (hk : k < q.rows.length) (l : List Int) (hl : l.length = (Go.Ds.gR q.rows k).length) : F5 σ { q with rows := q.rows.set k l } (H.set (p (k + 7)) (.rw ty_int (encInt.row l) (c (k + 7) * 1))) p c := by
  have hsd : sdC p c (q.rows.set k l) q.n = sdC p c q.rows q.n := by
    unfold sdC
    apply List.map_congr_left
    intro j _
    rw [gR_set hk]
    split
    · rename_i e; subst e; rw [hl]
    · rfl
  refine h.setl (i := k + 7) (b := .rw ty_int (encInt.row (Go.Ds.gR q.rows k)) (c (k + 7) * 1)) (by simp [BB, hk]) rfl fun j x hj => ?_
  by_cases e : j = k + 7
  · subst e; rw [up_eq]
    simp only [BB, List.length_set, hk, if_true, gR_set hk] at hj
    exact hj
  · rw [up_ne _ _ e, ← hj]
    match j, e with
    | 0, _ | 1, _ | 2, _ | 3, _ | 4, _ | 5, _ => rfl
    | 6, _ => simp only [BB, hsd]
    | m + 7, e =>
      have : ¬ k = m := fun g => e (by omega)
      simp only [BB, List.length_set, gR_set hk, this, if_false]
theorem F5.hB_ch {l : List Int} (hl : l ≠ []) (n cap : Nat) : ∀ j x, BB { q with ch := l } (up p 5 n) (up c 5 cap) j = some x → up (BB q p c) 5 (some (.rw ty_int (encInt.row l) (cap * 1))) j = some x := fun j x hj => by
  by_cases e : j = 5
  · subst e; rw [up_eq]
    simpa [BB, hl, up_eq] using hj
  · rw [up_ne _ _ e, ← BB_up (by decide) e n cap, ← hj]
    unfold BB
    split <;> first | rfl | exact absurd rfl e
theorem F5.app_ch1 (h : F5 σ q H p c) {l : List Int} (hl : l ≠ []) (hq : q.ch ≠ []) (cap : Nat) (one : AB) {cs : List AV} (hcs : outC { q with ch := l } (up p 5 (H.length + 1)) (up c 5 cap) = cs) :
    F5 σ { q with ch := l } (((H ++ [one]).set (p 5) .dead ++ [AB.rw ty_int (encInt.row l) (cap * 1)]).set (σ.length + 1) (.rw ty_impl_ServerRun cs 4)) (up p 5 (H.length + 1)) (up c 5 cap) := by
  subst hcs
  exact F5.mk1 (h.app (i := 5) (b := .rw ty_int (encInt.row q.ch) (c 5 * 1)) (by simp [BB, hq]) one _ (F5.hB_ch hl _ _))
theorem F5.app_ch0 (h : F5 σ q H p c) {l : List Int} (hl : l ≠ []) (hq : q.ch = []) (cap : Nat) (one : AB) {cs : List AV} (hcs : outC { q with ch := l } (up p 5 (H.length + 1)) (up c 5 cap) = cs) :
    F5 σ { q with ch := l } ((H ++ [one] ++ [AB.rw ty_int (encInt.row l) (cap * 1)]).set (σ.length + 1) (.rw ty_impl_ServerRun cs 4)) (up p 5 (H.length + 1)) (up c 5 cap) := by
  subst hcs
  exact F5.mk1 (h.app0 (i := 5) (by simp [BB, hq]) [one] _ (by simp) (F5.hB_ch hl _ _))
theorem F5.hB_run {l : List Int} (hl : l ≠ []) (n cap : Nat) : ∀ j x, BB { q with run := l } (up p 3 n) (up c 3 cap) j = some x → up (BB q p c) 3 (some (.rw ty_int (encInt.row l) (cap * 1))) j = some x := fun j x hj => by
  by_cases e : j = 3
  · subst e; rw [up_eq]
    simpa [BB, hl, up_eq] using hj
  · rw [up_ne _ _ e, ← BB_up (by decide) e n cap, ← hj]
    unfold BB
    split <;> first | rfl | exact absurd rfl e
theorem F5.app_run1 (h : F5 σ q H p c) {l : List Int} (hl : l ≠ []) (hq : q.run ≠ []) (cap : Nat) (one : AB) {cs : List AV} (hcs : outC { q with run := l } (up p 3 (H.length + 1)) (up c 3 cap) = cs) :
    F5 σ { q with run := l } (((H ++ [one]).set (p 3) .dead ++ [AB.rw ty_int (encInt.row l) (cap * 1)]).set (σ.length + 1) (.rw ty_impl_ServerRun cs 4)) (up p 3 (H.length + 1)) (up c 3 cap) := by
  subst hcs
  exact F5.mk1 (h.app (i := 3) (b := .rw ty_int (encInt.row q.run) (c 3 * 1)) (by simp [BB, hq]) one _ (F5.hB_run hl _ _))
theorem F5.app_run0 (h : F5 σ q H p c) {l : List Int} (hl : l ≠ []) (hq : q.run = []) (cap : Nat) (one : AB) {cs : List AV} (hcs : outC { q with run := l } (up p 3 (H.length + 1)) (up c 3 cap) = cs) :
    F5 σ { q with run := l } ((H ++ [one] ++ [AB.rw ty_int (encInt.row l) (cap * 1)]).set (σ.length + 1) (.rw ty_impl_ServerRun cs 4)) (up p 3 (H.length + 1)) (up c 3 cap) := by
  subst hcs
  exact F5.mk1 (h.app0 (i := 3) (by simp [BB, hq]) [one] _ (by simp) (F5.hB_run hl _ _))
theorem F5.hB_fin {l : List Int} (hl : l ≠ []) (n cap : Nat) : ∀ j x, BB { q with fin := l } (up p 4 n) (up c 4 cap) j = some x → up (BB q p c) 4 (some (.rw ty_int (encInt.row l) (cap * 1))) j = some x := fun j x hj => by
  by_cases e : j = 4
  · subst e; rw [up_eq]
    simpa [BB, hl, up_eq] using hj
  · rw [up_ne _ _ e, ← BB_up (by decide) e n cap, ← hj]
    unfold BB
    split <;> first | rfl | exact absurd rfl e
theorem F5.app_fin1 (h : F5 σ q H p c) {l : List Int} (hl : l ≠ []) (hq : q.fin ≠ []) (cap : Nat) (one : AB) {cs : List AV} (hcs : outC { q with fin := l } (up p 4 (H.length + 1)) (up c 4 cap) = cs) :
    F5 σ { q with fin := l } (((H ++ [one]).set (p 4) .dead ++ [AB.rw ty_int (encInt.row l) (cap * 1)]).set (σ.length + 1) (.rw ty_impl_ServerRun cs 4)) (up p 4 (H.length + 1)) (up c 4 cap) := by
  subst hcs
  exact F5.mk1 (h.app (i := 4) (b := .rw ty_int (encInt.row q.fin) (c 4 * 1)) (by simp [BB, hq]) one _ (F5.hB_fin hl _ _))
theorem F5.app_fin0 (h : F5 σ q H p c) {l : List Int} (hl : l ≠ []) (hq : q.fin = []) (cap : Nat) (one : AB) {cs : List AV} (hcs : outC { q with fin := l } (up p 4 (H.length + 1)) (up c 4 cap) = cs) :
    F5 σ { q with fin := l } ((H ++ [one] ++ [AB.rw ty_int (encInt.row l) (cap * 1)]).set (σ.length + 1) (.rw ty_impl_ServerRun cs 4)) (up p 4 (H.length + 1)) (up c 4 cap) := by
  subst hcs
  exact F5.mk1 (h.app0 (i := 4) (by simp [BB, hq]) [one] _ (by simp) (F5.hB_fin hl _ _))
end
end Go.Proofs.Ytnlciginmeebhaa
/- Contracts: the reference picks a server; what a tick does to the state, plain. -/
namespace Go.Proofs.Ytnlciginmeebhaa
open Go.Abs Go.Ds
set_option linter.unusedSimpArgs false
set_option linter.unusedVariables false
set_option maxRecDepth 20000
set_option maxHeartbeats 2000000
def gW (W : List St5) (k : Nat) : St5 := W.getD k default
def busyW (W : List St5) (limit : Int) (k : Nat) : Bool := decide ((gW W k).head < (gW W k).come ∧ (gW W k).dl < limit)
theorem gW_at {W : List St5} {k : Nat} (h : k < W.length) : gW W k = W[k] := by simp [gW, List.getD_eq_getElem?_getD, h]
theorem winSt {L : List St5} {k : Nat} (h : k < L.length) : win (encSt5.row L) (k * 5) 5 = encSt5.f (L[k]'h) := encSt5.win L k h
theorem encSt5f (s : St5) : encSt5.f s = [.i .i64 s.left, .i .i64 s.dl, .i .i64 s.come, .i .i64 s.head, .i .i64 s.rest] := rfl
theorem rdSt1 {L : List St5} {k : Nat} (h : k < L.length) : rd (encSt5.row L) (k * 5 + 1) = .i .i64 (L[k]'h).dl := encSt5.rd L k 1 h (by decide)
theorem rdSt3 {L : List St5} {k : Nat} (h : k < L.length) : rd (encSt5.row L) (k * 5 + 3) = .i .i64 (L[k]'h).head := encSt5.rd L k 3 h (by decide)
theorem spec_l5Pick0 (W : List St5) (limit : Int) (hl : W.length ≤ 1000) (c : Nat) : CallWp Try.prog n_spec_l5Pick [.sl 0 0 W.length c, .i .i64 limit] [.ro (encSt5.row W)]
    (fun x σ => x = .i .i64 (bestF W.length (busyW W limit) fun k => (gW W k).dl) ∧ σ = [.ro (encSt5.row W)]) := by
  refine call_spec_l5Pick (by simp) ?_
  simp only [c_spec_l5Pick, not_true_eq_false, not_false_eq_true, decide_true, decide_false, Bool.not_true, Bool.not_false, false_implies, true_implies, and_true, true_and, Bool.false_eq_true, Bool.true_eq_false, implies_true, Bool.not_not, Classical.not_not, go_sem, Int.reduceToNat, List.take_nil, Nat.zero_mul, Nat.reduceEqDiff, Nat.reduceAdd, Nat.reduceLT, Nat.reduceLeDiff, Nat.reduceMul, ↓reduceIte, reduceCtorEq]
  refine loop_count W.length (fun k => ⟨[(0, .sl 0 0 W.length c), (1, .i .i64 limit), (5, .i .i64 (bestF k (busyW W limit) fun k => (gW W k).dl)), (6, .i .i64 k)], [.ro (encSt5.row W)]⟩) (fun _ => True) trivial (Wk.keep (by simp [look_cons, bestF])) fun k hkl _ => ?_
  simp only [l0_spec_l5Pick, not_true_eq_false, not_false_eq_true, decide_true, decide_false, Bool.not_true, Bool.not_false, false_implies, true_implies, and_true, true_and, Bool.false_eq_true, Bool.true_eq_false, implies_true, Bool.not_not, Classical.not_not, go_sem, Int.reduceToNat, List.take_nil, Nat.zero_mul, Nat.reduceEqDiff, Nat.reduceAdd, Nat.reduceLT, Nat.reduceLeDiff, Nat.reduceMul, ↓reduceIte, reduceCtorEq]
  refine ⟨fun hl2 => ?_, fun hl2 => ?_⟩
  · have hb := bestF_range (busyW W limit) (fun k => (gW W k).dl) k
    have hsucc := bestF_succ k (busyW W limit) (fun k => (gW W k).dl)
    have ek : gW W k = W[k] := gW_at hl2
    have eok : busyW W limit k = decide (W[k].head < W[k].come ∧ W[k].dl < limit) := by unfold busyW; rw [ek]
    generalize bestF k (busyW W limit) (fun k => (gW W k).dl) = b at hb hsucc ⊢
    rw [hsucc, eok, ek]
    simp only [winSt hl2, encSt5f, lenSt, not_true_eq_false, not_false_eq_true, decide_true, decide_false, Bool.not_true, Bool.not_false, false_implies, true_implies, and_true, true_and, Bool.false_eq_true, Bool.true_eq_false, implies_true, Bool.not_not, Classical.not_not, go_sem, Int.reduceToNat, List.take_nil, Nat.zero_mul, Nat.reduceEqDiff, Nat.reduceAdd, Nat.reduceLT, Nat.reduceLeDiff, Nat.reduceMul, ↓reduceIte, reduceCtorEq]
    simp only [decide_eq_true_eq]
    refine ⟨hl2, by omega, fun g1 => ⟨fun g2 => ⟨fun g3 => ?_, fun g3 => ?_⟩, fun g2 => ?_⟩, fun g1 => ?_⟩
    · obtain ⟨nb, rfl⟩ := Int.eq_ofNat_of_zero_le (show 0 ≤ b by omega)
      have hnb : nb < W.length := by omega
      have eb : gW W nb = W[nb] := gW_at hnb
      simp only [Int.toNat_natCast, rdSt1 hnb, eb, not_true_eq_false, not_false_eq_true, decide_true, decide_false, Bool.not_true, Bool.not_false, false_implies, true_implies, and_true, true_and, Bool.false_eq_true, Bool.true_eq_false, implies_true, Bool.not_not, Classical.not_not, go_sem, Int.reduceToNat, List.take_nil, Nat.zero_mul, Nat.reduceEqDiff, Nat.reduceAdd, Nat.reduceLT, Nat.reduceLeDiff, Nat.reduceMul, ↓reduceIte, reduceCtorEq]
      refine ⟨by omega, by omega, fun g4 => ⟨by omega, hl2, ?_⟩, fun g4 => ⟨by omega, hl2, ?_⟩⟩
      · rw [if_pos ⟨⟨g1, g2⟩, .inr g4⟩]; exact Wk.pick [0]
      · rw [if_neg fun hh => hh.2.elim g3 g4]; exact Wk.pick [0]
    · refine ⟨by omega, hl2, ?_⟩
      rw [if_pos ⟨⟨g1, g2⟩, .inl g3⟩]; exact Wk.pick [0]
    · refine ⟨by omega, hl2, ?_⟩
      rw [if_neg fun hh => g2 hh.1.2]; exact Wk.pick [0]
    · refine ⟨by omega, hl2, ?_⟩
      rw [if_neg fun hh => g1 hh.1.1]; exact Wk.pick [0]
  · have e : k = W.length := by omega
    subst e
    exact Fin.plain ⟨rfl, rfl⟩
theorem spec_l5Pick_ {W : List St5} {limit : Int} (hl : W.length ≤ 1000) {u : AV} {σ : List AB} (a1 : Rd encSt5 σ u W) {K : AV → List AB → Prop} (hk : K (.i .i64 (bestF W.length (busyW W limit) fun k => (gW W k).dl)) σ) : CallWp Try.prog n_spec_l5Pick [u, .i .i64 limit] σ K :=
  call_rds _ (rds1 a1.r) (fun c => [.sl 0 0 W.length (c 0), .i .i64 limit]) (fun c => spec_l5Pick0 W limit hl (c 0)) (fun ν c h => ⟨h.1, .inl rfl, trivial⟩) (fun _ => rfl) rfl hk
theorem best_below (ok : Nat → Bool) (key : Nat → Int) (limit : Int) : ∀ n, bestF n (fun k => ok k && decide (key k < limit)) key = if 0 ≤ bestF n ok key ∧ key (bestF n ok key).toNat < limit then bestF n ok key else -1
  | 0 => rfl
  | n + 1 => by
    have ih := best_below ok key limit n
    have hb := bestF_range ok key n
    have hb2 := bestF_range (fun k => ok k && decide (key k < limit)) key n
    rw [bestF_succ, bestF_succ, ih]
    generalize bestF n ok key = b at *
    cases hok : ok n
    · simp
    by_cases hlim : key n < limit
    · simp only [hlim, decide_true, Bool.and_true, true_and]
      by_cases h0 : 0 ≤ b
      · have h0' : ¬ b < 0 := by omega
        by_cases h1 : key b.toNat < limit
        · simp only [h0, h1, h0', and_self, if_true, false_or]
          by_cases h2 : key n < key b.toNat
          · simp only [h2, if_true]
            rw [if_pos ⟨by omega, by simpa using hlim⟩]
          · simp only [h2, if_false]
            rw [if_pos ⟨h0, h1⟩]
        · have h2 : key n < key b.toNat := by omega
          simp only [h0, h1, h2, h0', and_false, if_false, false_or, if_true]
          rw [if_pos (.inl (by decide)), if_pos ⟨by omega, by simpa using hlim⟩]
      · have h0' : b < 0 := by omega
        simp only [h0, h0', false_and, if_false, true_or, if_true]
        rw [if_pos (.inl (by decide)), if_pos ⟨by omega, by simpa using hlim⟩]
    · simp only [hlim, decide_false, Bool.and_false, Bool.false_eq_true, false_and, if_false, true_and]
      by_cases h0 : b < 0 ∨ key n < key b.toNat
      · simp only [h0, if_true]
        have hr : ¬ (0 ≤ (n : Int) ∧ key (n : Int).toNat < limit) := fun h => hlim (by rw [Int.toNat_natCast] at h; exact h.2)
        rw [if_neg hr, if_neg fun h => by rcases h0 with h0 | h0 <;> omega]
      · simp only [h0, if_false]
def stW (X : List Srv) (AA : List (List Arr)) (f : Nat → Sv) : List St5 := (List.range X.length).map fun k => st5 (gAA AA k) (f k)
section
variable {X : List Srv} {AA : List (List Arr)} {L : List Job}
theorem stW_len (f : Nat → Sv) : (stW X AA f).length = X.length := by simp [stW]
theorem stW_at {f : Nat → Sv} {k : Nat} (h : k < X.length) : gW (stW X AA f) k = st5 (gAA AA k) (f k) := by simp [gW, stW, List.getD_eq_getElem?_getD, h]
theorem stW_get {f : Nat → Sv} {k : Nat} (h : k < (stW X AA f).length) : (stW X AA f)[k] = st5 (gAA AA k) (f k) := by simp [stW]
theorem stW_congr {f g : Nat → Sv} (h : ∀ k, k < X.length → f k = g k) : stW X AA f = stW X AA g := List.map_congr_left fun k hk => by rw [h k (List.mem_range.1 hk)]
theorem stW_set {f : Nat → Sv} {k : Nat} (h : k < X.length) (s : Sv) : (stW X AA f).set k (st5 (gAA AA k) s) = stW X AA (fun q => if q = k then s else f q) := by
  apply List.ext_getElem
  · simp [stW]
  · intro i h1 h2
    rw [List.getElem_set, stW_get h2]
    split
    · rename_i e; subst e; rw [if_pos rfl]
    · rename_i e; rw [if_neg fun g => e g.symm, stW_get]
def limL (L : List Job) (j : Int) : Int := if 0 ≤ j then (L.getD j.toNat default).D else 1073741824
theorem pick_go (hX : srvOk X) {t : Nat} (ht : t ≤ 120) : bestF X.length (busyW (stW X AA (gV (wT X AA L t))) (limL L (edfPick L t (srvS X AA L t).done))) (fun k => (gW (stW X AA (gV (wT X AA L t))) k).dl) = goT X AA L t := by
  have e1 : bestF X.length (busyW (stW X AA (gV (wT X AA L t))) (limL L (edfPick L t (srvS X AA L t).done))) (fun k => (gW (stW X AA (gV (wT X AA L t))) k).dl) =
      bestF X.length (fun k => pend (gV (wT X AA L t) k) && decide ((gV (wT X AA L t) k).dl < limL L (edfPick L t (srvS X AA L t).done))) (fun k => (gV (wT X AA L t) k).dl) := by
    refine bestF_congr (fun k hk => ?_) (fun k hk => by rw [stW_at hk]; rfl)
    unfold busyW
    rw [stW_at hk]
    unfold pend st5
    simp only [Int.ofNat_lt, Bool.decide_and]
  rw [e1, best_below]
  show _ = srvGo X.length L (wT X AA L t) t (srvS X AA L t).done
  unfold srvGo
  change (if 0 ≤ cand X.length (wT X AA L t) ∧ (gV (wT X AA L t) (cand X.length (wT X AA L t)).toNat).dl < limL L (edfPick L t (srvS X AA L t).done) then cand X.length (wT X AA L t) else -1) = _
  have hc := bestF_range (fun k => pend (gV (wT X AA L t) k)) (fun k => (gV (wT X AA L t) k).dl) X.length
  change -1 ≤ cand X.length (wT X AA L t) ∧ cand X.length (wT X AA L t) < X.length at hc
  have hd : ∀ k, k < X.length → (gV (wT X AA L t) k).dl ≤ 24 * t + 24 := fun k hk => by
    rw [wT_get hk]
    have hx := gS_ok hX hk
    unfold Srv.ok at hx
    exact admitN_dl (x := gS X k) (A := gAA AA k) (now := (t : Int)) (B := 24 * t + 24) (by omega) _ (sv_dl hX hk t)
  generalize cand X.length (wT X AA L t) = b at *
  generalize edfPick L t (srvS X AA L t).done = j at *
  by_cases h0 : b < 0
  · rw [if_neg (fun h => by omega), if_pos (.inl h0)]
  · have hdb := hd b.toNat (by omega)
    unfold limL
    by_cases hj : 0 ≤ j
    · simp only [hj, if_true, true_and, h0, false_or]
      by_cases h1 : (gV (wT X AA L t) b.toNat).dl < (L.getD j.toNat default).D
      · rw [if_pos ⟨by omega, h1⟩, if_neg (by omega)]
      · rw [if_neg (fun h => h1 h.2), if_pos (by omega)]
    · simp only [hj, if_false, h0, false_and, or_self]
      rw [if_pos ⟨by omega, by omega⟩]
end
end Go.Proofs.Ytnlciginmeebhaa
/- Contracts: a tick of the reference with servers. -/
namespace Go.Proofs.Ytnlciginmeebhaa
open Go.Abs Go.Ds
set_option linter.unusedSimpArgs false
set_option linter.unusedVariables false
set_option maxRecDepth 20000
set_option maxHeartbeats 4000000
section
variable {X : List Srv} {AA : List (List Arr)} {L : List Job}
def chT (X : List Srv) (AA : List (List Arr)) (L : List Job) (t : Nat) : List Int := (List.range t).map (goT X AA L)
theorem chT_len (t : Nat) : (chT X AA L t).length = t := by simp [chT]
theorem chT_succ (t : Nat) : chT X AA L (t + 1) = chT X AA L t ++ [goT X AA L t] := by unfold chT; rw [List.range_succ, List.map_append]; rfl
theorem chT_ne (t : Nat) : chT X AA L (t + 1) ≠ [] := by simp [chT]
def qT (X : List Srv) (AA : List (List Arr)) (L : List Job) (t : Nat) : Q5 := ⟨leftOf L (srvS X AA L t).done, L.map Job.D, stW X AA (svT X AA L t), (srvS X AA L t).run, (srvS X AA L t).fin, chT X AA L t, (srvS X AA L t).st.sd, X.length, false⟩
theorem tick_pos {t c : Nat} (h : goT X AA L t = c) : (srvS X AA L (t + 1)).done = (srvS X AA L t).done ∧ (srvS X AA L (t + 1)).fin = (srvS X AA L t).fin ∧ (srvS X AA L (t + 1)).run = (srvS X AA L t).run ++ [-1] := by
  have hp := (st_pos h).2
  have : srvS X AA L (t + 1) = tick L (srvPick X AA L) t (srvS X AA L t) := rfl
  rw [this]
  simp [tick, hp]
theorem tick_neg {t : Nat} (h : goT X AA L t = -1) (hj : edfPick L t (srvS X AA L t).done < 0) : (srvS X AA L (t + 1)).done = (srvS X AA L t).done ∧ (srvS X AA L (t + 1)).fin = (srvS X AA L t).fin ∧ (srvS X AA L (t + 1)).run = (srvS X AA L t).run ++ [edfPick L t (srvS X AA L t).done] := by
  have hp := (st_neg h).2
  have : srvS X AA L (t + 1) = tick L (srvPick X AA L) t (srvS X AA L t) := rfl
  rw [this]
  simp [tick, hp, hj]
theorem tick_job {t n : Nat} (h : goT X AA L t = -1) (hj : edfPick L t (srvS X AA L t).done = n) (hn : n < L.length) : leftOf L (srvS X AA L (t + 1)).done = (leftOf L (srvS X AA L t).done).set n (gI (leftOf L (srvS X AA L t).done) n - 1) ∧
    (srvS X AA L (t + 1)).fin = (if gI (leftOf L (srvS X AA L t).done) n - 1 = 0 then (srvS X AA L t).fin.set n (t + 1) else (srvS X AA L t).fin) ∧ (srvS X AA L (t + 1)).run = (srvS X AA L t).run ++ [(n : Int)] := by
  have hp := (st_neg h).2
  rw [hj] at hp
  have hl := (sim_lens (L := L) (pick := srvPick X AA L) (s0 := ss0 X AA) t).1
  change (srvS X AA L t).done.length = L.length at hl
  have : srvS X AA L (t + 1) = tick L (srvPick X AA L) t (srvS X AA L t) := rfl
  rw [this]
  generalize srvS X AA L t = s at *
  have hneg : ¬ (n : Int) < 0 := by omega
  simp only [tick, hp, hneg, if_false, Int.toNat_natCast]
  refine ⟨leftOf_set _ _ _ hn hl, ?_, trivial⟩
  rw [leftOf_gI _ _ _ hn]
  by_cases e : gI s.done n + 1 = (L.getD n default).E
  · rw [if_pos e, if_pos (by omega)]
  · rw [if_neg e, if_neg (by omega)]
theorem sv_idle {k : Nat} (hk : k < X.length) : ∀ t : Nat, (svT X AA L t k).came ≤ (svT X AA L t k).at_ → (svT X AA L t k).done = 0
  | 0 => fun _ => by rw [sv_zero hk]; rfl
  | t + 1 => by
    have ih := sv_idle hk t
    have ha := admitN_eq (gS X k) (gAA AA k) (t : Int) ((gAA AA k).length - (svT X AA L t k).came) (svT X AA L t k)
    change (admS (gS X k) (gAA AA k) t (svT X AA L t k)).at_ = _ ∧ (admS (gS X k) (gAA AA k) t (svT X AA L t k)).done = _ ∧ _ ≤ (admS (gS X k) (gAA AA k) t (svT X AA L t k)).came at ha
    rw [sv_step hk]
    split
    · rename_i e
      have hg := goT_spec (X := X) (AA := AA) (L := L) t
      rcases hg with e2 | ⟨c, e2, _, hc, hp, _⟩
      · omega
      obtain rfl : c = k := by omega
      rw [wT_get hk] at hp
      have hp := of_decide_eq_true hp
      intro h
      change (admS (gS X c) (gAA AA c) t (svT X AA L t c)).came ≤ (if ends (gAA AA c) (admS (gS X c) (gAA AA c) t (svT X AA L t c)) = true then _ else _) at h
      show (if ends (gAA AA c) (admS (gS X c) (gAA AA c) t (svT X AA L t c)) = true then (0 : Int) else _) = 0
      split
      · rfl
      · rename_i he; rw [if_neg he] at h; omega
    · intro h
      rw [ha.2.1]
      exact ih (by omega)
theorem svR_T (hX : srvOk X) {k t : Nat} (hk : k < X.length) (ht : t ≤ 120) : SvR (gS X k) (gAA AA k) (svT X AA L t k) :=
  ⟨sv_ok hX hk t, by have := sv_dl (AA := AA) (L := L) hX hk t; omega, sv_idle hk t⟩
theorem svR_W (hX : srvOk X) {k t : Nat} (hk : k < X.length) (ht : t ≤ 120) : SvR (gS X k) (gAA AA k) (gV (wT X AA L t) k) := by
  have hx := gS_ok hX hk
  rw [wT_get hk]
  refine ⟨(sv_ok hX hk t).admS hx (by omega), ?_, ?_⟩
  · unfold Srv.ok at hx
    have := admitN_dl (x := gS X k) (A := gAA AA k) (now := (t : Int)) (B := 24 * t + 24) (by omega) ((gAA AA k).length - (svT X AA L t k).came) (sv_dl (AA := AA) (L := L) hX hk t)
    change (admS (gS X k) (gAA AA k) t (svT X AA L t k)).dl ≤ _ at this
    omega
  · have ha := admitN_eq (gS X k) (gAA AA k) (t : Int) ((gAA AA k).length - (svT X AA L t k).came) (svT X AA L t k)
    change (admS (gS X k) (gAA AA k) t (svT X AA L t k)).at_ = _ ∧ (admS (gS X k) (gAA AA k) t (svT X AA L t k)).done = _ ∧ _ ≤ (admS (gS X k) (gAA AA k) t (svT X AA L t k)).came at ha
    intro h
    rw [ha.2.1]
    exact sv_idle hk t (by omega)
end
def Θ5 (N : Nat) (v xv av : AV) (nL nX : Nat) (i : List AB × (Nat → Nat) × (Nat → Nat) × Nat) : St :=
  ⟨[(0, v), (1, xv), (2, av), (6, .p N 0), (7, .p (N + 1) 0), (8, .sl (i.2.1 0) 0 nL (i.2.2.1 0)), (9, .sl (i.2.1 1) 0 nL (i.2.2.1 1)), (11, .sl (i.2.1 2) 0 nX (i.2.2.1 2)), (15, .i .i64 i.2.2.2)], i.1⟩
def J5 (σ : List AB) (X : List Srv) (AA : List (List Arr)) (L : List Job) (i : List AB × (Nat → Nat) × (Nat → Nat) × Nat) : Prop := F5 σ (qT X AA L i.2.2.2) i.1 i.2.1 i.2.2.1 ∧ i.2.2.2 ≤ 120
def T5 (N : Nat) (p c : Nat → Nat) (xn xo xc nX an ao ac nA nL : Nat) (t : Nat) (j go lim : Int) (v : AV) : List (Nat × AV) :=
  [(19, .i .i64 go), (121, .i .i64 go), (120, .i .i64 lim), (119, .sl (p 2) 0 nX (c 2)), (1, .sl xn xo nX xc), (2, .sl an ao nA ac), (6, .p N 0), (7, .p (N + 1) 0), (8, .sl (p 0) 0 nL (c 0)), (9, .sl (p 1) 0 nL (c 1)), (11, .sl (p 2) 0 nX (c 2)), (15, .i .i64 t), (17, .i .i64 j), (18, .i .i64 lim), (0, v)]
def mixS (X : List Srv) (AA : List (List Arr)) (L : List Job) (t k : Nat) (q : Nat) : Sv := if q < k then gV (wT X AA L t) q else svT X AA L t q
theorem l5_tick {σ : List AB} {S : List Task} {X : List Srv} {AA : List (List Arr)} {L : List Job} {v : AV} {xn xo xc an ao ac : Nat} (hok : srvRunOk S L X AA) (hv : Rd encJob σ v L) (hX : Rd encSrv σ (.sl xn xo X.length xc) X) (hA : RdA σ (.sl an ao AA.length ac) AA)
    {Q : Exit → St → Prop} {H : List AB} {p c : Nat → Nat} {t : Nat} (hF : F5 σ (qT X AA L t) H p c) (ht : t < 120) :
    wpC Try.prog σ.length 205 l1_spec_l5Run (fun e s'' => match e with | .normal => ∃ i', (J5 σ X AA L i' ∧ 120 - i'.2.2.2 < 120 - t) ∧ Wk σ.length 205 s'' (Θ5 σ.length v (.sl xn xo X.length xc) (.sl an ao AA.length ac) L.length X.length i') | e => Q e s'') (Θ5 σ.length v (.sl xn xo X.length xc) (.sl an ao AA.length ac) L.length X.length (H, p, c, t)) := by
  have ht' : (t : Int) < 120 := by omega
  have hAl := hok.2.2.1
  have hXo := hok.2.1
  obtain ⟨xcs, hxc, hxl, hxw⟩ : ∃ xcs : List AV, cellsOf σ xn = some xcs ∧ xo + X.length * 2 ≤ xcs.length ∧ win xcs xo (X.length * 2) = encSrv.row X := by
    rcases hX with ⟨n, o, cap, cs, e, _, h⟩ | ⟨e, _⟩
    · cases e; exact ⟨cs, h⟩
    · cases e
  obtain ⟨acs, hac, hal, har⟩ : ∃ acs : List AV, cellsOf σ an = some acs ∧ ao + AA.length ≤ acs.length ∧ ∀ k (h : k < AA.length), Rd encArr σ (rd acs (ao + k)) AA[k] := by
    rcases hA with ⟨n, o, cap, cs, e, h⟩ | ⟨e, _⟩
    · cases e; exact ⟨cs, h⟩
    · cases e
  have hcx : ∀ {H q p c}, F5 σ q H p c → cellsOf H xn = some xcs := fun h => by
    have := cells_lt hxc
    unfold cellsOf at hxc ⊢
    rw [h.base _ this]; exact hxc
  have hca : ∀ {H q p c}, F5 σ q H p c → cellsOf H an = some acs := fun h => by
    have := cells_lt hac
    unfold cellsOf at hac ⊢
    rw [h.base _ this]; exact hac
  simp only [l1_spec_l5Run, Θ5, ht', not_true_eq_false, not_false_eq_true, decide_true, decide_false, Bool.not_true, Bool.not_false, false_implies, true_implies, and_true, true_and, Bool.false_eq_true, Bool.true_eq_false, implies_true, Bool.not_not, Classical.not_not, go_sem, Int.reduceToNat, List.take_nil, Nat.zero_mul, Nat.reduceEqDiff, Nat.reduceAdd, Nat.reduceLT, Nat.reduceLeDiff, Nat.reduceMul, ↓reduceIte, reduceCtorEq]
  refine loop_intro (fun i : List AB × Nat => ⟨[(0, v), (1, .sl xn xo X.length xc), (2, .sl an ao AA.length ac), (6, .p σ.length 0), (7, .p (σ.length + 1) 0), (8, .sl (p 0) 0 L.length (c 0)), (9, .sl (p 1) 0 L.length (c 1)), (11, .sl (p 2) 0 X.length (c 2)), (15, .i .i64 t), (16, .i .i64 i.2)], i.1⟩)
    (fun i => F5 σ { qT X AA L t with W := stW X AA (mixS X AA L t i.2) } i.1 p c ∧ i.2 ≤ X.length) (fun i => X.length - i.2) (H, 0) ⟨?_, Nat.zero_le _⟩ (Wk.keep (by simp [look_cons])) ?_
  · exact hF
  rintro ⟨H, k⟩ ⟨hF, hk⟩
  simp only at hF hk
  simp only [l0_spec_l5Run, not_true_eq_false, not_false_eq_true, decide_true, decide_false, Bool.not_true, Bool.not_false, false_implies, true_implies, and_true, true_and, Bool.false_eq_true, Bool.true_eq_false, implies_true, Bool.not_not, Classical.not_not, go_sem, Int.reduceToNat, List.take_nil, Nat.zero_mul, Nat.reduceEqDiff, Nat.reduceAdd, Nat.reduceLT, Nat.reduceLeDiff, Nat.reduceMul, ↓reduceIte, reduceCtorEq]
  refine ⟨fun hkl => ?_, fun hkl => ?_⟩
  · have hkA : k < AA.length := by omega
    have hkW : k < (stW X AA (mixS X AA L t k)).length := by rw [stW_len]; exact hkl
    have hx := gS_ok hXo hkl
    have hgx : gS X k = X[k] := by simp [gS, List.getD_eq_getElem?_getD, hkl]
    have hgA : gAA AA k = AA[k] := by simp [gAA, List.getD_eq_getElem?_getD, hkA]
    have hAk := arrsOk.at hok.2.2 hkl
    have w1 := winSt hkW
    rw [stW_get, encSt5_st, show mixS X AA L t k k = svT X AA L t k from if_neg (Nat.lt_irrefl k)] at w1
    have w2 := win_at (E := encSrv) hxl hxw k hkl
    simp only [encSrv] at w2
    change xo + k * 2 + 2 ≤ xcs.length ∧ win xcs (xo + k * 2) 2 = encSrv.f X[k] at w2
    rw [← hgx] at w2
    have r1 := hF.rd (har k hkA)
    rw [← hgA] at r1
    simp only [hF.W_at, onC_of (hcx hF), onC_of (hca hF), w1, w2.2, r1.data, lenSt, stW_len, not_true_eq_false, not_false_eq_true, decide_true, decide_false, Bool.not_true, Bool.not_false, false_implies, true_implies, and_true, true_and, Bool.false_eq_true, Bool.true_eq_false, implies_true, Bool.not_not, Classical.not_not, go_sem, Int.reduceToNat, List.take_nil, Nat.zero_mul, Nat.reduceEqDiff, Nat.reduceAdd, Nat.reduceLT, Nat.reduceLeDiff, Nat.reduceMul, ↓reduceIte, reduceCtorEq]
    refine ⟨hkl, by omega, hkl, w2.1, hkA, by omega, ?_⟩
    refine onCall.by (spec_l5Arrive_ hx (by have := hAk.1; omega) (svR_T hXo hkl (by omega)) ⟨by omega, by omega⟩ r1 ⟨rfl, rfl⟩) ?_
    simp only [hF.W_at, cellsSt_eq, not_true_eq_false, not_false_eq_true, decide_true, decide_false, Bool.not_true, Bool.not_false, false_implies, true_implies, and_true, true_and, Bool.false_eq_true, Bool.true_eq_false, implies_true, Bool.not_not, Classical.not_not, go_sem, Int.reduceToNat, List.take_nil, Nat.zero_mul, Nat.reduceEqDiff, Nat.reduceAdd, Nat.reduceLT, Nat.reduceLeDiff, Nat.reduceMul, ↓reduceIte, reduceCtorEq]
    have e1 := encSt5.set (stW X AA (mixS X AA L t k)) k hkW (st5 (gAA AA k) (admS (gS X k) (gAA AA k) t (svT X AA L t k)))
    have e2 : stW X AA (fun q => if q = k then admS (gS X k) (gAA AA k) t (svT X AA L t k) else mixS X AA L t k q) = stW X AA (mixS X AA L t (k + 1)) := stW_congr fun q hq => by
      unfold mixS
      by_cases e : q = k
      · subst e; rw [if_pos rfl, if_pos (by omega), wT_get hq]
      · rw [if_neg e]
        by_cases h1 : q < k
        · rw [if_pos h1, if_pos (by omega)]
        · rw [if_neg h1, if_neg (by omega)]
    rw [stW_set hkl, e2] at e1
    change spl (encSt5.row (stW X AA (mixS X AA L t k))) (k * 5) [.i .i64 (admS (gS X k) (gAA AA k) t (svT X AA L t k)).left, .i .i64 (admS (gS X k) (gAA AA k) t (svT X AA L t k)).dl, .i .i64 (admS (gS X k) (gAA AA k) t (svT X AA L t k)).came, .i .i64 (admS (gS X k) (gAA AA k) t (svT X AA L t k)).at_, .i .i64 (restOf (gAA AA k) (admS (gS X k) (gAA AA k) t (svT X AA L t k)))] = _ at e1
    rw [e1]
    have hX2 := hXo.1
    exact ⟨hkl, by rw [lenSt, stW_len]; omega, by omega, (_, k + 1), ⟨⟨hF.setW (stW X AA (mixS X AA L t (k + 1))), by simp only; omega⟩, by simp only; omega⟩, Wk.keep (by simp [look_cons])⟩
  · have e : k = X.length := by omega
    subst e
    have eW : stW X AA (mixS X AA L t X.length) = stW X AA (gV (wT X AA L t)) := stW_congr fun q hq => if_pos hq
    rw [eW] at hF
    have hlf : (leftOf L (srvS X AA L t).done).length = L.length := leftOf_length _ _
    have hlo := hF.lf_at
    have hko := hF.ks_at
    simp only [hv.data, not_true_eq_false, not_false_eq_true, decide_true, decide_false, Bool.not_true, Bool.not_false, false_implies, true_implies, and_true, true_and, Bool.false_eq_true, Bool.true_eq_false, implies_true, Bool.not_not, Classical.not_not, go_sem, Int.reduceToNat, List.take_nil, Nat.zero_mul, Nat.reduceEqDiff, Nat.reduceAdd, Nat.reduceLT, Nat.reduceLeDiff, Nat.reduceMul, ↓reduceIte, reduceCtorEq]
    have hl60 : L.length ≤ 60 := hok.1.2.1.1
    refine spec_l3Best_ (L := L) (lf := leftOf L (srvS X AA L t).done) (ks := L.map Job.D) (now := t) (by omega) (by omega) hlf (by simp) (hF.rd hv) (Rd.len' (by unfold cellsOf; rw [hlo]; rfl) hlf) (Rd.len' (by unfold cellsOf; rw [hko]; rfl) (by simp)) ?_
    rw [keyPick_left, edf_key]
    have hjr := edf_fair L t (srvS X AA L t).done
    have hgo := goT_spec (X := X) (AA := AA) (L := L) t
    have hpg := pick_go (AA := AA) (L := L) hXo (t := t) (by omega)
    have hjob := fun n => tick_job (X := X) (AA := AA) (L := L) (t := t) (n := n)
    have hneg := tick_neg (X := X) (AA := AA) (L := L) (t := t)
    generalize hj : edfPick L t (srvS X AA L t).done = j at *
    simp only [not_true_eq_false, not_false_eq_true, decide_true, decide_false, Bool.not_true, Bool.not_false, false_implies, true_implies, and_true, true_and, Bool.false_eq_true, Bool.true_eq_false, implies_true, Bool.not_not, Classical.not_not, go_sem, Int.reduceToNat, List.take_nil, Nat.zero_mul, Nat.reduceEqDiff, Nat.reduceAdd, Nat.reduceLT, Nat.reduceLeDiff, Nat.reduceMul, ↓reduceIte, reduceCtorEq]
    refine seq_join (fun _ : Unit => ⟨[(1, .sl xn xo X.length xc), (2, .sl an ao AA.length ac), (6, .p σ.length 0), (7, .p (σ.length + 1) 0), (8, .sl (p 0) 0 L.length (c 0)), (9, .sl (p 1) 0 L.length (c 1)), (11, .sl (p 2) 0 X.length (c 2)), (15, .i .i64 t), (17, .i .i64 j), (18, .i .i64 (limL L j)), (0, v)], H⟩) (fun _ => True) ?_ fun _ _ => ?_
    · simp only [not_true_eq_false, not_false_eq_true, decide_true, decide_false, Bool.not_true, Bool.not_false, false_implies, true_implies, and_true, true_and, Bool.false_eq_true, Bool.true_eq_false, implies_true, Bool.not_not, Classical.not_not, go_sem, Int.reduceToNat, List.take_nil, Nat.zero_mul, Nat.reduceEqDiff, Nat.reduceAdd, Nat.reduceLT, Nat.reduceLeDiff, Nat.reduceMul, ↓reduceIte, reduceCtorEq]
      refine ⟨fun h0 => ⟨by rcases hjr with e | ⟨q, e, hq, _⟩ <;> omega, ?_⟩, fun h0 => kJ_intro () trivial (Wk.keep ?_)⟩
      · rcases hjr with e | ⟨q, e, hq, _⟩
        · omega
        subst e
        have hqm : q < (L.map Job.D).length := by simpa using hq
        have hko' : H[p 1]? = some (.rw ty_int (encInt.row (L.map Job.D)) (c 1 * 1)) := hko
        simp only [hko', rdI hqm, lenI, Int.toNat_natCast, List.length_map, List.getElem_map, not_true_eq_false, not_false_eq_true, decide_true, decide_false, Bool.not_true, Bool.not_false, false_implies, true_implies, and_true, true_and, Bool.false_eq_true, Bool.true_eq_false, implies_true, Bool.not_not, Classical.not_not, go_sem, Int.reduceToNat, List.take_nil, Nat.zero_mul, Nat.reduceEqDiff, Nat.reduceAdd, Nat.reduceLT, Nat.reduceLeDiff, Nat.reduceMul, ↓reduceIte, reduceCtorEq]
        refine ⟨hq, kJ_intro () trivial (Wk.keep ?_)⟩
        have e1 : limL L (q : Int) = L[q].D := by unfold limL; rw [if_pos (by omega)]; simp [List.getD_eq_getElem?_getD, hq]
        simp [look_cons, e1]
      · have e1 : limL L j = 1073741824 := if_neg h0
        simp [look_cons, e1]
    · simp only [not_true_eq_false, not_false_eq_true, decide_true, decide_false, Bool.not_true, Bool.not_false, false_implies, true_implies, and_true, true_and, Bool.false_eq_true, Bool.true_eq_false, implies_true, Bool.not_not, Classical.not_not, go_sem, Int.reduceToNat, List.take_nil, Nat.zero_mul, Nat.reduceEqDiff, Nat.reduceAdd, Nat.reduceLT, Nat.reduceLeDiff, Nat.reduceMul, ↓reduceIte, reduceCtorEq]
      refine spec_l5Pick_ (W := stW X AA (gV (wT X AA L t))) (by rw [stW_len]; have := hXo.1; omega) (Rd.len' (by unfold cellsOf; rw [hF.W_at]) (stW_len _)) ?_
      rw [stW_len, hpg]
      have hout : H[σ.length + 1]? = some (.rw ty_impl_ServerRun [vI p c 3 t, vI p c 4 L.length, vI p c 5 t, vI p c 6 X.length] 4) := by
        have h := hF.out
        have hl := sim_lens (L := L) (pick := srvPick X AA L) (s0 := ss0 X AA) t
        change _ ∧ (srvS X AA L t).fin.length = L.length ∧ (srvS X AA L t).run.length = t at hl
        rw [h]
        simp [outC, qT, hl.2.1, hl.2.2, chT_len]
      simp only [kI_some, wpI_some, wpI_none, wpI_nil, wpO_mv, ev_t, look_cons, eqT, eqF, Nat.reduceEqDiff, reduceIte]
      rw [kS_normal]
      have hlr := hF.lay
      have hH := hF.len
      refine seq_cut (fun s' => ∃ a1 a2 a3 a4 a5 a6 H2 cap, s' = ⟨(127, a1) :: (126, a2) :: (125, a3) :: (124, a4) :: (123, a5) :: (122, a6) :: T5 σ.length p c xn xo xc X.length an ao ac AA.length L.length t j (goT X AA L t) (limL L j) v, H2⟩ ∧ F5 σ { qT X AA L t with W := stW X AA (gV (wT X AA L t)), ch := chT X AA L (t + 1) } H2 (up p 5 (H.length + 1)) (up c 5 cap)) ?ha ?hb
      case ha =>
        have hfl : (srvS X AA L t).fin.length = L.length ∧ (srvS X AA L t).run.length = t := by
          have hl := sim_lens (L := L) (pick := srvPick X AA L) (s0 := ss0 X AA) t
          exact hl.2
        have hnn : chT X AA L (t + 1) ≠ [] := chT_ne t
        rcases Nat.eq_zero_or_pos t with h0 | h0
        · have hv3 : vI p c 5 t = .sn := if_pos h0
          rw [hv3] at hout
          have f2 : ∀ one new, (H ++ [one] ++ [new])[σ.length + 1]? = some (.rw ty_impl_ServerRun [vI p c 3 t, vI p c 4 L.length, .sn, vI p c 6 X.length] 4) := fun one new => by
            rw [List.getElem?_append_left (by simp only [List.length_append]; omega), List.getElem?_append_left (by omega)]; exact hout
          simp only [hout, at_new0, f2, not_true_eq_false, not_false_eq_true, decide_true, decide_false, Bool.not_true, Bool.not_false, false_implies, true_implies, and_true, true_and, Bool.false_eq_true, Bool.true_eq_false, implies_true, Bool.not_not, Classical.not_not, go_sem, Int.reduceToNat, List.take_nil, Nat.zero_mul, Nat.reduceEqDiff, Nat.reduceAdd, Nat.reduceLT, Nat.reduceLeDiff, Nat.reduceMul, ↓reduceIte, reduceCtorEq]
          intro cap hcap
          refine ⟨_, _, _, _, _, _, _, cap, rfl, ?_⟩
          have := hF.app_ch0 (l := chT X AA L (t + 1)) hnn (by simp [qT, h0, chT]) cap (.rw ty_int [.i .i64 (goT X AA L t)] 1) (cs := [vI p c 3 t, vI p c 4 L.length, .sl (H.length + 1) 0 1 cap, vI p c 6 X.length]) (by
            simp only [outC, qT, vI, up, hfl.1, hfl.2, chT_len]; simp [h0])
          rw [show encInt.row (chT X AA L (t + 1)) = [.i .i64 (goT X AA L t)] by rw [chT_succ, h0]; rfl] at this
          rw [Nat.mul_one] at this
          exact this
        · have hv3 : vI p c 5 t = .sl (p 5) 0 t (c 5) := if_neg (by omega)
          rw [hv3] at hout
          have hne : (qT X AA L t).ch ≠ [] := by
            intro h
            have := congrArg List.length h
            simp [qT, chT] at this; omega
          have h5 : BB { qT X AA L t with W := stW X AA (gV (wT X AA L t)) } p c 5 = some (.rw ty_int (encInt.row (chT X AA L t)) (c 5 * 1)) := if_neg hne
          have f1 : ∀ one : AB, (H ++ [one])[p 5]? = some (.rw ty_int (encInt.row (chT X AA L t)) (c 5 * 1)) := fun one => at_old (hF.lay.at h5) _
          have hlt5 := hF.lay.lt h5
          have hge5 := hF.lay.ge h5
          have f2 : ∀ one new : AB, ((H ++ [one]).set (p 5) .dead ++ [new])[σ.length + 1]? = some (.rw ty_impl_ServerRun [vI p c 3 t, vI p c 4 L.length, .sl (p 5) 0 t (c 5), vI p c 6 X.length] 4) := fun one new => by
            rw [List.getElem?_append_left (by simp only [List.length_set, List.length_append]; omega), List.getElem?_set_ne (by omega), List.getElem?_append_left (by omega)]; exact hout
          have hlc : (encInt.row (chT X AA L t)).length = t := by rw [lenI]; exact chT_len t
          simp only [hout, at_new0, f1, f2, hlc, not_true_eq_false, not_false_eq_true, decide_true, decide_false, Bool.not_true, Bool.not_false, false_implies, true_implies, and_true, true_and, Bool.false_eq_true, Bool.true_eq_false, implies_true, Bool.not_not, Classical.not_not, go_sem, Int.reduceToNat, List.take_nil, Nat.zero_mul, Nat.reduceEqDiff, Nat.reduceAdd, Nat.reduceLT, Nat.reduceLeDiff, Nat.reduceMul, ↓reduceIte, reduceCtorEq]
          refine ⟨by omega, fun cap hcap => ?_⟩
          refine ⟨_, _, _, _, _, _, _, cap, rfl, ?_⟩
          have := hF.app_ch1 (l := chT X AA L (t + 1)) hnn hne cap (.rw ty_int [.i .i64 (goT X AA L t)] 1) (cs := [vI p c 3 t, vI p c 4 L.length, .sl (H.length + 1) 0 (t + 1) cap, vI p c 6 X.length]) (by
            simp only [outC, qT, vI, up, hfl.1, hfl.2, chT_len]; simp)
          rw [chT_succ, ← appI, Nat.mul_one] at this
          rw [List.take_of_length_le (by rw [hlc]; omega), chT_succ]
          exact this
      case hb =>
        rintro _ ⟨a1, a2, a3, a4, a5, a6, H2, cap, rfl, hF2⟩
        have eT : ∀ x y, T5 σ.length p c xn xo xc X.length an ao ac AA.length L.length t j (goT X AA L t) (limL L j) v = T5 σ.length (up p 5 x) (up c 5 y) xn xo xc X.length an ao ac AA.length L.length t j (goT X AA L t) (limL L j) v := fun _ _ => rfl
        rw [eT (H.length + 1) cap]
        clear eT hout hlo hko hF hlr hH
        generalize up p 5 (H.length + 1) = p2 at *
        generalize up c 5 cap = c2 at *
        have hfl : (srvS X AA L t).fin.length = L.length ∧ (srvS X AA L t).run.length = t := by
          have hl := sim_lens (L := L) (pick := srvPick X AA L) (s0 := ss0 X AA) t
          exact hl.2
        have hout2 : H2[σ.length + 1]? = some (.rw ty_impl_ServerRun [vI p2 c2 3 t, vI p2 c2 4 L.length, vI p2 c2 5 (t + 1), vI p2 c2 6 X.length] 4) := by
          rw [hF2.out]; simp [outC, qT, hfl.1, hfl.2, chT_len]
        have hH2 := hF2.len
        rcases hgo with hg | ⟨cc, hg, hcand, hcn, hcp, hcm, hcj⟩
        · rw [hg] at hpg ⊢
          refine seq_cut (fun s' => s' = ⟨(129, .b false) :: (128, .i .i64 (-1)) :: (127, a1) :: (126, a2) :: (125, a3) :: (124, a4) :: (123, a5) :: (122, a6) :: T5 σ.length p2 c2 xn xo xc X.length an ao ac AA.length L.length t j (-1) (limL L j) v, H2⟩) ?_ ?_
          · simp only [T5, not_true_eq_false, not_false_eq_true, decide_true, decide_false, Bool.not_true, Bool.not_false, false_implies, true_implies, and_true, true_and, Bool.false_eq_true, Bool.true_eq_false, implies_true, Bool.not_not, Classical.not_not, go_sem, Int.reduceToNat, List.take_nil, Nat.zero_mul, Nat.reduceEqDiff, Nat.reduceAdd, Nat.reduceLT, Nat.reduceLeDiff, Nat.reduceMul, ↓reduceIte, reduceCtorEq]
            exact ⟨fun h => absurd h (by decide), fun _ => by simp⟩
          rintro _ rfl
          refine seq_cut (fun s' => ∃ b0 b1 b2 b3 b4 b5 b6 b7 H3 cap, s' = ⟨(181, b0) :: (180, b1) :: (179, b2) :: (178, b3) :: (177, b4) :: (176, b5) :: (175, b6) :: (174, b7) :: (129, .b false) :: (128, .i .i64 (-1)) :: (127, a1) :: (126, a2) :: (125, a3) :: (124, a4) :: (123, a5) :: (122, a6) :: T5 σ.length p2 c2 xn xo xc X.length an ao ac AA.length L.length t j (-1) (limL L j) v, H3⟩ ∧ F5 σ { { qT X AA L t with W := stW X AA (gV (wT X AA L t)), ch := chT X AA L (t + 1) } with run := (srvS X AA L t).run ++ [j] } H3 (up p2 3 (H2.length + 1)) (up c2 3 cap)) ?ha ?hb
          case ha =>
            have hnn : (srvS X AA L t).run ++ [(j : Int)] ≠ [] := by simp
            rcases Nat.eq_zero_or_pos t with h0 | h0
            · have hv3 : vI p2 c2 3 t = .sn := if_pos h0
              have hrn : (srvS X AA L t).run = [] := List.eq_nil_of_length_eq_zero (by rw [hfl.2]; exact h0)
              rw [hv3] at hout2
              have f2 : ∀ one new, (H2 ++ [one] ++ [new])[σ.length + 1]? = some (.rw ty_impl_ServerRun [.sn, vI p2 c2 4 L.length, vI p2 c2 5 (t + 1), vI p2 c2 6 X.length] 4) := fun one new => by
                rw [List.getElem?_append_left (by simp only [List.length_append]; omega), List.getElem?_append_left (by omega)]; exact hout2
              simp only [T5, hout2, at_new0, f2, not_true_eq_false, not_false_eq_true, decide_true, decide_false, Bool.not_true, Bool.not_false, false_implies, true_implies, and_true, true_and, Bool.false_eq_true, Bool.true_eq_false, implies_true, Bool.not_not, Classical.not_not, go_sem, Int.reduceToNat, List.take_nil, Nat.zero_mul, Nat.reduceEqDiff, Nat.reduceAdd, Nat.reduceLT, Nat.reduceLeDiff, Nat.reduceMul, ↓reduceIte, reduceCtorEq]
              intro cap hcap
              refine ⟨_, _, _, _, _, _, _, _, _, cap, rfl, ?_⟩
              have := hF2.app_run0 (l := (srvS X AA L t).run ++ [j]) hnn hrn cap (.rw ty_int [.i .i64 j] 1) (cs := [.sl (H2.length + 1) 0 1 cap, vI p2 c2 4 L.length, vI p2 c2 5 (t + 1), vI p2 c2 6 X.length]) (by
                simp only [outC, qT, vI, up, hfl.1, hfl.2, chT_len, List.length_append]; simp [h0])
              rw [Nat.mul_one, show encInt.row ((srvS X AA L t).run ++ [j]) = [.i .i64 j] by rw [hrn]; rfl] at this
              exact this
            · have hv3 : vI p2 c2 3 t = .sl (p2 3) 0 t (c2 3) := if_neg (by omega)
              rw [hv3] at hout2
              have hne : (srvS X AA L t).run ≠ [] := fun h => by
                have := hfl.2
                rw [h] at this; simp at this; omega
              have h5 : BB { { qT X AA L t with W := stW X AA (gV (wT X AA L t)), ch := chT X AA L (t + 1) } with run := (srvS X AA L t).run } p2 c2 3 = some (.rw ty_int (encInt.row (srvS X AA L t).run) (c2 3 * 1)) := if_neg hne
              have f1 : ∀ one : AB, (H2 ++ [one])[p2 3]? = some (.rw ty_int (encInt.row (srvS X AA L t).run) (c2 3 * 1)) := fun one => at_old (hF2.lay.at h5) _
              have hlt5 := hF2.lay.lt h5
              have hge5 := hF2.lay.ge h5
              have f2 : ∀ one new : AB, ((H2 ++ [one]).set (p2 3) .dead ++ [new])[σ.length + 1]? = some (.rw ty_impl_ServerRun [.sl (p2 3) 0 t (c2 3), vI p2 c2 4 L.length, vI p2 c2 5 (t + 1), vI p2 c2 6 X.length] 4) := fun one new => by
                rw [List.getElem?_append_left (by simp only [List.length_set, List.length_append]; omega), List.getElem?_set_ne (by omega), List.getElem?_append_left (by omega)]; exact hout2
              have hlc : (encInt.row (srvS X AA L t).run).length = t := by rw [lenI]; exact hfl.2
              simp only [T5, hout2, at_new0, f1, f2, hlc, not_true_eq_false, not_false_eq_true, decide_true, decide_false, Bool.not_true, Bool.not_false, false_implies, true_implies, and_true, true_and, Bool.false_eq_true, Bool.true_eq_false, implies_true, Bool.not_not, Classical.not_not, go_sem, Int.reduceToNat, List.take_nil, Nat.zero_mul, Nat.reduceEqDiff, Nat.reduceAdd, Nat.reduceLT, Nat.reduceLeDiff, Nat.reduceMul, ↓reduceIte, reduceCtorEq]
              refine ⟨by omega, fun cap hcap => ?_⟩
              refine ⟨_, _, _, _, _, _, _, _, _, cap, rfl, ?_⟩
              have := hF2.app_run1 (l := (srvS X AA L t).run ++ [j]) hnn hne cap (.rw ty_int [.i .i64 j] 1) (cs := [.sl (H2.length + 1) 0 (t + 1) cap, vI p2 c2 4 L.length, vI p2 c2 5 (t + 1), vI p2 c2 6 X.length]) (by
                simp only [outC, qT, vI, up, hfl.1, hfl.2, chT_len, List.length_append]; simp)
              rw [← appI, Nat.mul_one] at this
              rw [List.take_of_length_le (by rw [hlc]; omega)]
              exact this
          case hb =>
            rintro _ ⟨b0, b1, b2, b3, b4, b5, b6, b7, H3, cap, rfl, hF3⟩
            have eT : ∀ x y, T5 σ.length p2 c2 xn xo xc X.length an ao ac AA.length L.length t j (-1) (limL L j) v = T5 σ.length (up p2 3 x) (up c2 3 y) xn xo xc X.length an ao ac AA.length L.length t j (-1) (limL L j) v := fun _ _ => rfl
            rw [eT (H2.length + 1) cap]
            clear eT hout2 hF2 hH2
            generalize up p2 3 (H2.length + 1) = p3 at *
            generalize up c2 3 cap = c3 at *
            have hW1 : stW X AA (svT X AA L (t + 1)) = stW X AA (gV (wT X AA L t)) := stW_congr fun k hk => by rw [sv_step hk, if_neg (by omega), wT_get hk]
            have hsd : (srvS X AA L (t + 1)).st.sd = (srvS X AA L t).st.sd := by rw [(st_neg hg).1]
            rcases hjr with hj0 | ⟨n, hj0, hn, _⟩
            · obtain ⟨g1, g2, g3⟩ := hneg hg (by omega)
              have hq : qT X AA L (t + 1) = { qT X AA L t with W := stW X AA (gV (wT X AA L t)), ch := chT X AA L (t + 1), run := (srvS X AA L t).run ++ [j] } := by
                unfold qT; rw [hW1, hsd, g1, g2, g3]
              simp only [T5, not_true_eq_false, not_false_eq_true, decide_true, decide_false, Bool.not_true, Bool.not_false, false_implies, true_implies, and_true, true_and, Bool.false_eq_true, Bool.true_eq_false, implies_true, Bool.not_not, Classical.not_not, go_sem, Int.reduceToNat, List.take_nil, Nat.zero_mul, Nat.reduceEqDiff, Nat.reduceAdd, Nat.reduceLT, Nat.reduceLeDiff, Nat.reduceMul, ↓reduceIte, reduceCtorEq]
              exact ⟨fun h => absurd h (by omega), fun _ => ⟨by omega, (H3, p3, c3, t + 1), ⟨⟨by rw [hq]; exact hF3, by simp only; omega⟩, by simp only; omega⟩, Wk.keep (by simp [look_cons])⟩⟩
            · obtain ⟨g1, g2, g3⟩ := hjob n hg hj0 hn
              subst hj0
              have hlf2 : (leftOf L (srvS X AA L t).done).length = L.length := leftOf_length _ _
              have hnl : n < (leftOf L (srvS X AA L t).done).length := by omega
              have hlo : H3[p3 0]? = some (.rw ty_int (encInt.row (leftOf L (srvS X AA L t).done)) (c3 0 * 1)) := hF3.lf_at
              simp only [T5, hlo, rdI hnl, lenI, splI hnl, Int.toNat_natCast, not_true_eq_false, not_false_eq_true, decide_true, decide_false, Bool.not_true, Bool.not_false, false_implies, true_implies, and_true, true_and, Bool.false_eq_true, Bool.true_eq_false, implies_true, Bool.not_not, Classical.not_not, go_sem, Int.reduceToNat, List.take_nil, Nat.zero_mul, Nat.reduceEqDiff, Nat.reduceAdd, Nat.reduceLT, Nat.reduceLeDiff, Nat.reduceMul, ↓reduceIte, reduceCtorEq]
              have hEb : 0 ≤ (L.getD n default).E ∧ (L.getD n default).E ≤ 1000 := by
                have h2 := hok.1.2.1.mem (j := L.getD n default) (by simp [List.getD_eq_getElem?_getD, hn])
                have t1 := gT_ok hok.1.1 h2.1.1 h2.1.2
                unfold Task.ok at t1
                have h3 : costOf S (L.getD n default).T = (gT S (L.getD n default).T).C := rfl
                omega
              have hdn := sim_done (L := L) (pick := srvPick X AA L) (s0 := ss0 X AA) (fun s now done => (pick_range s now done).2) t n hn
              change 0 ≤ gI (srvS X AA L t).done n ∧ gI (srvS X AA L t).done n ≤ t at hdn
              have hlg : (leftOf L (srvS X AA L t).done)[n] = gI (leftOf L (srvS X AA L t).done) n := by simp [gI, List.getD_eq_getElem?_getD, hnl]
              have hlv := leftOf_gI L (srvS X AA L t).done n hn
              have hF4 := hF3.setLf ((leftOf L (srvS X AA L t).done).set n ((leftOf L (srvS X AA L t).done)[n] - 1))
              rw [Nat.mul_one] at hF4
              rw [← hlg] at g1 g2 hlv
              have hfn : (srvS X AA L t).fin ≠ [] := fun h => by have := hfl.1; rw [h] at this; simp at this; omega
              have hnf : n < (srvS X AA L t).fin.length := by rw [hfl.1]; exact hn
              generalize H3.set (p3 0) (AB.rw ty_int (encInt.row ((leftOf L (srvS X AA L t).done).set n ((leftOf L (srvS X AA L t).done)[n] - 1))) (c3 0)) = H4 at *
              have hlo4 : H4[p3 0]? = some (.rw ty_int (encInt.row ((leftOf L (srvS X AA L t).done).set n ((leftOf L (srvS X AA L t).done)[n] - 1))) (c3 0 * 1)) := hF4.lf_at
              have hnl4 : n < ((leftOf L (srvS X AA L t).done).set n ((leftOf L (srvS X AA L t).done)[n] - 1)).length := by rw [List.length_set]; exact hnl
              have hout4 : H4[σ.length + 1]? = some (.rw ty_impl_ServerRun [vI p3 c3 3 (t + 1), .sl (p3 4) 0 L.length (c3 4), vI p3 c3 5 (t + 1), vI p3 c3 6 X.length] 4) := by
                have hL0 : ¬ L.length = 0 := by omega
                rw [hF4.out]; simp [outC, qT, hfl.1, hfl.2, chT_len]; exact if_neg hL0
              have hfin4 : H4[p3 4]? = some (.rw ty_int (encInt.row (srvS X AA L t).fin) (c3 4 * 1)) := hF4.lay.at (i := 4) (if_neg hfn)
              simp only [hlo4, hout4, hfin4, rdI hnl4, rdI hnf, splI hnf, lenI, List.getElem_set_self, List.length_set, not_true_eq_false, not_false_eq_true, decide_true, decide_false, Bool.not_true, Bool.not_false, false_implies, true_implies, and_true, true_and, Bool.false_eq_true, Bool.true_eq_false, implies_true, Bool.not_not, Classical.not_not, go_sem, Int.reduceToNat, List.take_nil, Nat.zero_mul, Nat.reduceEqDiff, Nat.reduceAdd, Nat.reduceLT, Nat.reduceLeDiff, Nat.reduceMul, ↓reduceIte, reduceCtorEq]
              refine ⟨hn, hnl, by omega, hn, by omega, hn, hnl, fun hz => ⟨by omega, hn, by omega, by omega, (_, p3, c3, t + 1), ⟨⟨?_, by simp only; omega⟩, by simp only; omega⟩, Wk.keep (by simp [look_cons])⟩, fun hz => ⟨by omega, (H4, p3, c3, t + 1), ⟨⟨?_, by simp only; omega⟩, by simp only; omega⟩, Wk.keep (by simp [look_cons])⟩⟩
              · have hF5 := hF4.setFin hfn ((srvS X AA L t).fin.set n (t + 1)) (by rw [List.length_set]; rfl)
                rw [Nat.mul_one] at hF5
                rw [if_pos hz] at g2
                have hq : qT X AA L (t + 1) = { qT X AA L t with W := stW X AA (gV (wT X AA L t)), ch := chT X AA L (t + 1), run := (srvS X AA L t).run ++ [(n : Int)], lf := (leftOf L (srvS X AA L t).done).set n ((leftOf L (srvS X AA L t).done)[n] - 1), fin := (srvS X AA L t).fin.set n (t + 1) } := by
                  unfold qT; rw [hW1, hsd, g1, g2, g3]
                show F5 σ (qT X AA L (t + 1)) _ p3 c3
                rw [hq]; exact hF5
              · rw [if_neg hz] at g2
                have hq : qT X AA L (t + 1) = { qT X AA L t with W := stW X AA (gV (wT X AA L t)), ch := chT X AA L (t + 1), run := (srvS X AA L t).run ++ [(n : Int)], lf := (leftOf L (srvS X AA L t).done).set n ((leftOf L (srvS X AA L t).done)[n] - 1) } := by
                  unfold qT; rw [hW1, hsd, g1, g2, g3]
                show F5 σ (qT X AA L (t + 1)) _ p3 c3
                rw [hq]; exact hF4
        · rw [hg] at hpg ⊢
          have hkA : cc < AA.length := by omega
          have hkW : cc < (stW X AA (gV (wT X AA L t))).length := by rw [stW_len]; exact hcn
          have hx := gS_ok hXo hcn
          have hgx : gS X cc = X[cc] := by simp [gS, List.getD_eq_getElem?_getD, hcn]
          have hgA : gAA AA cc = AA[cc] := by simp [gAA, List.getD_eq_getElem?_getD, hkA]
          have hAk := arrsOk.at hok.2.2 hcn
          have w1 := winSt hkW
          rw [stW_get, encSt5_st] at w1
          have w2 := win_at (E := encSrv) hxl hxw cc hcn
          change xo + cc * 2 + 2 ≤ xcs.length ∧ win xcs (xo + cc * 2) 2 = encSrv.f X[cc] at w2
          rw [← hgx] at w2
          have r1 := hF2.rd (har cc hkA)
          rw [← hgA] at r1
          have hW2 : H2[p2 2]? = some (.rw ty_spec_l5State (encSt5.row (stW X AA (gV (wT X AA L t)))) (c2 2 * 5)) := hF2.W_at
          have w3 : rd (encSt5.row (stW X AA (gV (wT X AA L t)))) (cc * 5 + 3) = .i .i64 (gV (wT X AA L t) cc).at_ := by rw [rdSt3 hkW, stW_get]; rfl
          simp only [T5, hW2, w3, onC_of (hcx hF2), onC_of (hca hF2), w1, w2.2, r1.data, lenSt, stW_len, not_true_eq_false, not_false_eq_true, decide_true, decide_false, Bool.not_true, Bool.not_false, false_implies, true_implies, and_true, true_and, Bool.false_eq_true, Bool.true_eq_false, implies_true, Bool.not_not, Classical.not_not, go_sem, Int.reduceToNat, List.take_nil, Nat.zero_mul, Nat.reduceEqDiff, Nat.reduceAdd, Nat.reduceLT, Nat.reduceLeDiff, Nat.reduceMul, ↓reduceIte, reduceCtorEq]
          refine ⟨hcn, by omega, hcn, by omega, hcn, w2.1, hkA, by omega, ?_⟩
          have hSR := svR_W (AA := AA) (L := L) hXo hcn (t := t) (by omega)
          refine onCall.by (spec_l5Serve_ hx hAk hSR hcp r1 ⟨rfl, rfl⟩) ?_
          simp only [hW2, cellsSt_eq, not_true_eq_false, not_false_eq_true, decide_true, decide_false, Bool.not_true, Bool.not_false, false_implies, true_implies, and_true, true_and, Bool.false_eq_true, Bool.true_eq_false, implies_true, Bool.not_not, Classical.not_not, go_sem, Int.reduceToNat, List.take_nil, Nat.zero_mul, Nat.reduceEqDiff, Nat.reduceAdd, Nat.reduceLT, Nat.reduceLeDiff, Nat.reduceMul, ↓reduceIte, reduceCtorEq]
          have e1 := encSt5.set (stW X AA (gV (wT X AA L t))) cc hkW (st5 (gAA AA cc) (Go.Ds.serve (gS X cc) (gAA AA cc) (gV (wT X AA L t) cc)))
          have hS1 : svT X AA L (t + 1) cc = Go.Ds.serve (gS X cc) (gAA AA cc) (gV (wT X AA L t) cc) := by rw [sv_step hcn, if_pos hg, wT_get hcn]
          have e2 : stW X AA (fun q => if q = cc then Go.Ds.serve (gS X cc) (gAA AA cc) (gV (wT X AA L t) cc) else gV (wT X AA L t) q) = stW X AA (svT X AA L (t + 1)) := stW_congr fun q hq => by
            by_cases e : q = cc
            · subst e; rw [if_pos rfl, hS1]
            · rw [if_neg e, sv_step hq, if_neg (by omega), wT_get hq]
          rw [stW_set hcn, e2] at e1
          change spl (encSt5.row (stW X AA (gV (wT X AA L t)))) (cc * 5) [.i .i64 (Go.Ds.serve (gS X cc) (gAA AA cc) (gV (wT X AA L t) cc)).left, .i .i64 (Go.Ds.serve (gS X cc) (gAA AA cc) (gV (wT X AA L t) cc)).dl, .i .i64 (Go.Ds.serve (gS X cc) (gAA AA cc) (gV (wT X AA L t) cc)).came, .i .i64 (Go.Ds.serve (gS X cc) (gAA AA cc) (gV (wT X AA L t) cc)).at_, .i .i64 (restOf (gAA AA cc) (Go.Ds.serve (gS X cc) (gAA AA cc) (gV (wT X AA L t) cc)))] = _ at e1
          rw [e1]
          refine ⟨hcn, by rw [lenSt, stW_len]; omega, ?_⟩
          have hF3 := hF2.setW (stW X AA (svT X AA L (t + 1)))
          generalize H2.set (p2 2) (.rw ty_spec_l5State (encSt5.row (stW X AA (svT X AA L (t + 1)))) (c2 2 * 5)) = H3 at *
          have hst := (st_pos hg).1
          have hssl := ss_len (L := L) (X := X) (AA := AA) hAl t
          refine seq_join (fun H4 : List AB => ⟨T5 σ.length p2 c2 xn xo xc X.length an ao ac AA.length L.length t j cc (limL L j) v, H4⟩) (fun H4 => F5 σ { qT X AA L t with W := stW X AA (svT X AA L (t + 1)), ch := chT X AA L (t + 1), rows := (srvS X AA L (t + 1)).st.sd } H4 p2 c2) ?_ ?_
          · have hkW1 : cc < (stW X AA (svT X AA L (t + 1))).length := by rw [stW_len]; exact hcn
            have hW3 : H3[p2 2]? = some (.rw ty_spec_l5State (encSt5.row (stW X AA (svT X AA L (t + 1)))) (c2 2 * 5)) := hF3.W_at
            have w4 : rd (encSt5.row (stW X AA (svT X AA L (t + 1)))) (cc * 5 + 3) = .i .i64 (svT X AA L (t + 1) cc).at_ := by rw [rdSt3 hkW1, stW_get]; rfl
            have hat : (svT X AA L (t + 1) cc).at_ = if ends (gAA AA cc) (gV (wT X AA L t) cc) = true then (gV (wT X AA L t) cc).at_ + 1 else (gV (wT X AA L t) cc).at_ := by rw [hS1]; rfl
            have hX0 : ¬ X.length = 0 := by omega
            have hout3 : H3[σ.length + 1]? = some (.rw ty_impl_ServerRun [vI p2 c2 3 t, vI p2 c2 4 L.length, vI p2 c2 5 (t + 1), .sl (p2 6) 0 X.length (c2 6)] 4) := by
              rw [hF3.out]; simp [outC, qT, hfl.1, hfl.2, chT_len]; exact if_neg hX0
            have hrl : cc < (srvS X AA L t).st.sd.length := by rw [hssl.1]; exact hcn
            have h6 : H3[p2 6]? = some (.rw ty_sl_int (sdC p2 c2 (srvS X AA L t).st.sd X.length) (c2 6 * 1)) := hF3.lay.at (i := 6) (if_neg hX0)
            have h7 : H3[p2 (cc + 7)]? = some (.rw ty_int (encInt.row (Go.Ds.gR (srvS X AA L t).st.sd cc)) (c2 (cc + 7) * 1)) := hF3.lay.at (i := cc + 7) (if_pos hrl)
            have hrow := hssl.2.2 cc hcn
            have w5 : rd (sdC p2 c2 (srvS X AA L t).st.sd X.length) cc = .sl (p2 (cc + 7)) 0 (gAA AA cc).length (c2 (cc + 7)) := by
              simp [sdC, rd, hcn, hrow]
            have hlen6 : (sdC p2 c2 (srvS X AA L t).st.sd X.length).length = X.length := by simp [sdC]
            have hp1 := of_decide_eq_true hcp
            have hcl := hSR.ok.cl
            have hatl : (gV (wT X AA L t) cc).at_ < (Go.Ds.gR (srvS X AA L t).st.sd cc).length := by rw [hrow]; omega
            have hsd : (srvS X AA L (t + 1)).st.sd = if ends (gAA AA cc) (gV (wT X AA L t) cc) = true then (srvS X AA L t).st.sd.set cc ((Go.Ds.gR (srvS X AA L t).st.sd cc).set (gV (wT X AA L t) cc).at_ (t + 1)) else (srvS X AA L t).st.sd := by rw [hst]
            have hA20 := hAk.1
            generalize hEnd : ends (gAA AA cc) (gV (wT X AA L t) cc) = en at *
            simp only [hW3, w4, hout3, h6, h7, w5, hlen6, lenSt, stW_len, splI hatl, lenI, not_true_eq_false, not_false_eq_true, decide_true, decide_false, Bool.not_true, Bool.not_false, false_implies, true_implies, and_true, true_and, Bool.false_eq_true, Bool.true_eq_false, implies_true, Bool.not_not, Classical.not_not, go_sem, Int.reduceToNat, List.take_nil, Nat.zero_mul, Nat.reduceEqDiff, Nat.reduceAdd, Nat.reduceLT, Nat.reduceLeDiff, Nat.reduceMul, ↓reduceIte, reduceCtorEq]
            refine ⟨hcn, by omega, fun hgt => ⟨hcn, hcn, by omega, by omega, by omega, ?_⟩, fun hgt => ?_⟩
            · have hen : en = true := by
                cases en with
                | true => rfl
                | false => rw [hat] at hgt; simp at hgt
              subst hen
              refine kJ_intro _ ?_ (Wk.keep (by simp [T5, look_cons]))
              rw [hsd, if_pos rfl]
              have hF4 := hF3.setRow (k := cc) hrl ((Go.Ds.gR (srvS X AA L t).st.sd cc).set (gV (wT X AA L t) cc).at_ (t + 1)) (by rw [List.length_set]; rfl)
              rw [Nat.mul_one] at hF4
              exact hF4
            · have hen : en = false := by
                cases en with
                | false => rfl
                | true => rw [hat] at hgt; simp at hgt
              subst hen
              refine kJ_intro _ ?_ (Wk.keep (by simp [T5, look_cons]))
              rw [hsd, if_neg (by decide)]
              exact hF3
          · intro H4 hF4
            have hout2 : H4[σ.length + 1]? = some (.rw ty_impl_ServerRun [vI p2 c2 3 t, vI p2 c2 4 L.length, vI p2 c2 5 (t + 1), vI p2 c2 6 X.length] 4) := by
              rw [hF4.out]; simp [outC, qT, hfl.1, hfl.2, chT_len]
            have hH4 := hF4.len
            refine seq_cut (fun s' => ∃ b0 b1 b2 b3 b4 b5 b6 H3 cap, s' = ⟨(173, b0) :: (172, b1) :: (171, b2) :: (170, b3) :: (169, b4) :: (168, b5) :: (167, b6) :: T5 σ.length p2 c2 xn xo xc X.length an ao ac AA.length L.length t j cc (limL L j) v, H3⟩ ∧ F5 σ { { qT X AA L t with W := stW X AA (svT X AA L (t + 1)), ch := chT X AA L (t + 1), rows := (srvS X AA L (t + 1)).st.sd } with run := (srvS X AA L t).run ++ [(-1)] } H3 (up p2 3 (H4.length + 1)) (up c2 3 cap)) ?ha ?hb
            case ha =>
              have hnn : (srvS X AA L t).run ++ [((-1) : Int)] ≠ [] := by simp
              rcases Nat.eq_zero_or_pos t with h0 | h0
              · have hv3 : vI p2 c2 3 t = .sn := if_pos h0
                have hrn : (srvS X AA L t).run = [] := List.eq_nil_of_length_eq_zero (by rw [hfl.2]; exact h0)
                rw [hv3] at hout2
                have f2 : ∀ one new, (H4 ++ [one] ++ [new])[σ.length + 1]? = some (.rw ty_impl_ServerRun [.sn, vI p2 c2 4 L.length, vI p2 c2 5 (t + 1), vI p2 c2 6 X.length] 4) := fun one new => by
                  rw [List.getElem?_append_left (by simp only [List.length_append]; omega), List.getElem?_append_left (by omega)]; exact hout2
                simp only [T5, hout2, at_new0, f2, not_true_eq_false, not_false_eq_true, decide_true, decide_false, Bool.not_true, Bool.not_false, false_implies, true_implies, and_true, true_and, Bool.false_eq_true, Bool.true_eq_false, implies_true, Bool.not_not, Classical.not_not, go_sem, Int.reduceToNat, List.take_nil, Nat.zero_mul, Nat.reduceEqDiff, Nat.reduceAdd, Nat.reduceLT, Nat.reduceLeDiff, Nat.reduceMul, ↓reduceIte, reduceCtorEq]
                intro cap hcap
                refine ⟨_, _, _, _, _, _, _, _, cap, rfl, ?_⟩
                have := hF4.app_run0 (l := (srvS X AA L t).run ++ [(-1)]) hnn hrn cap (.rw ty_int [.i .i64 (-1)] 1) (cs := [.sl (H4.length + 1) 0 1 cap, vI p2 c2 4 L.length, vI p2 c2 5 (t + 1), vI p2 c2 6 X.length]) (by
                  simp only [outC, qT, vI, up, hfl.1, hfl.2, chT_len, List.length_append]; simp [h0])
                rw [Nat.mul_one, show encInt.row ((srvS X AA L t).run ++ [(-1)]) = [.i .i64 (-1)] by rw [hrn]; rfl] at this
                exact this
              · have hv3 : vI p2 c2 3 t = .sl (p2 3) 0 t (c2 3) := if_neg (by omega)
                rw [hv3] at hout2
                have hne : (srvS X AA L t).run ≠ [] := fun h => by
                  have := hfl.2
                  rw [h] at this; simp at this; omega
                have h5 : BB { { qT X AA L t with W := stW X AA (svT X AA L (t + 1)), ch := chT X AA L (t + 1), rows := (srvS X AA L (t + 1)).st.sd } with run := (srvS X AA L t).run } p2 c2 3 = some (.rw ty_int (encInt.row (srvS X AA L t).run) (c2 3 * 1)) := if_neg hne
                have f1 : ∀ one : AB, (H4 ++ [one])[p2 3]? = some (.rw ty_int (encInt.row (srvS X AA L t).run) (c2 3 * 1)) := fun one => at_old (hF4.lay.at h5) _
                have hlt5 := hF4.lay.lt h5
                have hge5 := hF4.lay.ge h5
                have f2 : ∀ one new : AB, ((H4 ++ [one]).set (p2 3) .dead ++ [new])[σ.length + 1]? = some (.rw ty_impl_ServerRun [.sl (p2 3) 0 t (c2 3), vI p2 c2 4 L.length, vI p2 c2 5 (t + 1), vI p2 c2 6 X.length] 4) := fun one new => by
                  rw [List.getElem?_append_left (by simp only [List.length_set, List.length_append]; omega), List.getElem?_set_ne (by omega), List.getElem?_append_left (by omega)]; exact hout2
                have hlc : (encInt.row (srvS X AA L t).run).length = t := by rw [lenI]; exact hfl.2
                simp only [T5, hout2, at_new0, f1, f2, hlc, not_true_eq_false, not_false_eq_true, decide_true, decide_false, Bool.not_true, Bool.not_false, false_implies, true_implies, and_true, true_and, Bool.false_eq_true, Bool.true_eq_false, implies_true, Bool.not_not, Classical.not_not, go_sem, Int.reduceToNat, List.take_nil, Nat.zero_mul, Nat.reduceEqDiff, Nat.reduceAdd, Nat.reduceLT, Nat.reduceLeDiff, Nat.reduceMul, ↓reduceIte, reduceCtorEq]
                refine ⟨by omega, fun cap hcap => ?_⟩
                refine ⟨_, _, _, _, _, _, _, _, cap, rfl, ?_⟩
                have := hF4.app_run1 (l := (srvS X AA L t).run ++ [(-1)]) hnn hne cap (.rw ty_int [.i .i64 (-1)] 1) (cs := [.sl (H4.length + 1) 0 (t + 1) cap, vI p2 c2 4 L.length, vI p2 c2 5 (t + 1), vI p2 c2 6 X.length]) (by
                  simp only [outC, qT, vI, up, hfl.1, hfl.2, chT_len, List.length_append]; simp)
                rw [← appI, Nat.mul_one] at this
                rw [List.take_of_length_le (by rw [hlc]; omega)]
                exact this
            case hb =>
              rintro _ ⟨b0, b1, b2, b3, b4, b5, b6, H3, cap, rfl, hF3⟩
              obtain ⟨g1, g2, g3⟩ := tick_pos (X := X) (AA := AA) (L := L) hg
              have hq : qT X AA L (t + 1) = { qT X AA L t with W := stW X AA (svT X AA L (t + 1)), ch := chT X AA L (t + 1), run := (srvS X AA L t).run ++ [-1], rows := (srvS X AA L (t + 1)).st.sd } := by
                unfold qT; rw [g1, g2, g3]
              simp only [T5, not_true_eq_false, not_false_eq_true, decide_true, decide_false, Bool.not_true, Bool.not_false, false_implies, true_implies, and_true, true_and, Bool.false_eq_true, Bool.true_eq_false, implies_true, Bool.not_not, Classical.not_not, go_sem, Int.reduceToNat, List.take_nil, Nat.zero_mul, Nat.reduceEqDiff, Nat.reduceAdd, Nat.reduceLT, Nat.reduceLeDiff, Nat.reduceMul, ↓reduceIte, reduceCtorEq]
              exact ⟨by omega, (H3, up p2 3 (H4.length + 1), up c2 3 cap, t + 1), ⟨⟨by rw [hq]; exact hF3, by simp only; omega⟩, by simp only; omega⟩, Wk.keep (by simp [look_cons, up])⟩
end Go.Proofs.Ytnlciginmeebhaa
/- Contracts: the run with servers of the reference. -/
namespace Go.Proofs.Ytnlciginmeebhaa
open Go.Abs Go.Ds
set_option linter.unusedSimpArgs false
set_option linter.unusedVariables false
set_option maxRecDepth 20000
set_option maxHeartbeats 4000000
section
variable {σ H : List AB} {q : Q5} {p c : Nat → Nat}
theorem outC_up (q : Q5) (p c : Nat → Nat) {i : Nat} (a b : Nat) (h : i < 3 ∨ 7 ≤ i) : outC q (up p i a) (up c i b) = outC q p c := by
  unfold outC
  rw [vI_up p c _ _ _ (by omega), vI_up p c _ _ _ (by omega), vI_up p c _ _ _ (by omega), vI_up p c _ _ _ (by omega)]
theorem F5.app_lf (h : F5 σ q H p c) (l : List Int) (cap : Nat) (one : AB) : F5 σ { q with lf := l } ((H ++ [one]).set (p 0) .dead ++ [AB.rw ty_int (encInt.row l) (cap * 1)]) (up p 0 (H.length + 1)) (up c 0 cap) := by
  refine F5.mk0 (h.app (i := 0) (b := .rw ty_int (encInt.row q.lf) (c 0 * 1)) rfl one _ fun j x hj => ?_) (outC_up { q with lf := l } p c _ _ (.inl (by decide)))
  by_cases e : j = 0
  · subst e; rw [up_eq]
    simpa [BB, up_eq] using hj
  · rw [up_ne _ _ e, ← BB_up (by decide) e (H.length + 1) cap, ← hj]
    unfold BB
    split <;> first | rfl | exact absurd rfl e
theorem F5.app_W (h : F5 σ q H p c) (hn : q.nw = false) (l : List St5) (cap : Nat) (one : AB) : F5 σ { q with W := l } ((H ++ [one]).set (p 2) .dead ++ [AB.rw ty_spec_l5State (encSt5.row l) (cap * 5)]) (up p 2 (H.length + 1)) (up c 2 cap) := by
  refine F5.mk0 (h.app (i := 2) (b := .rw ty_spec_l5State (encSt5.row q.W) (c 2 * 5)) (if_neg (by rw [hn]; decide)) one _ fun j x hj => ?_) (outC_up { q with W := l } p c _ _ (.inl (by decide)))
  by_cases e : j = 2
  · subst e; rw [up_eq]
    simpa [BB, up_eq, hn] using hj
  · rw [up_ne _ _ e, ← BB_up (by decide) e (H.length + 1) cap, ← hj]
    unfold BB
    split <;> first | rfl | exact absurd rfl e
theorem F5.put_W (h : F5 σ q H p c) (hn : q.nw = true) : F5 σ { q with W := [], nw := false } (H ++ [AB.rw ty_spec_l5State [] 0]) (up p 2 H.length) (up c 2 0) := by
  have := h.app0 (i := 2) (q' := { q with W := [], nw := false }) (c' := up c 2 0) (if_pos hn) [] (.rw ty_spec_l5State [] 0) (n := H.length) (by simp) fun j x hj => ?_
  · rw [List.append_nil] at this
    exact F5.mk0 this (outC_up { q with W := [], nw := false } p c _ _ (.inl (by decide)))
  by_cases e : j = 2
  · subst e; rw [up_eq]
    have e0 : encSt5.row [] = [] := rfl
    simpa [BB, up_eq, e0] using hj
  · rw [up_ne _ _ e, ← BB_up (by decide) e H.length 0, ← hj]
    unfold BB
    split <;> first | rfl | exact absurd rfl e
theorem sdC_congr {p p' c c' : Nat → Nat} {R R' : List (List Int)} {n : Nat} (h : ∀ k, k < n → p' (k + 7) = p (k + 7) ∧ c' (k + 7) = c (k + 7) ∧ (Go.Ds.gR R' k).length = (Go.Ds.gR R k).length) : sdC p' c' R' n = sdC p c R n :=
  List.map_congr_left fun k hk => by
    obtain ⟨h1, h2, h3⟩ := h k (List.mem_range.1 hk)
    rw [h1, h2, h3]
theorem gR_app {R : List (List Int)} {k : Nat} (h : k < R.length) (S : List (List Int)) : Go.Ds.gR (R ++ S) k = Go.Ds.gR R k := by
  unfold Go.Ds.gR
  rw [List.getD_eq_getElem?_getD, List.getElem?_append_left h, List.getD_eq_getElem?_getD]
theorem gR_last (R : List (List Int)) (r : List Int) : Go.Ds.gR (R ++ [r]) R.length = r := by simp [Go.Ds.gR, List.getD_eq_getElem?_getD]
theorem BB_row {R : List (List Int)} {r r' : List Int} (hq : q.rows = R ∨ q.rows = R ++ [r]) (hn : q.n ≤ R.length) (a b : Nat) {j : Nat} {x : AB} (hj : BB { q with rows := R ++ [r'] } (up p (R.length + 7) a) (up c (R.length + 7) b) j = some x) :
    up (BB q p c) (R.length + 7) (some (.rw ty_int (encInt.row r') (b * 1))) j = some x := by
  have hg : ∀ k, k < R.length → Go.Ds.gR q.rows k = Go.Ds.gR R k := fun k hk => by
    rcases hq with e | e
    · rw [e]
    · rw [e]; exact gR_app hk _
  by_cases e : j = R.length + 7
  · subst e; rw [up_eq]
    simpa [BB, up_eq, gR_last] using hj
  · rw [up_ne _ _ e, ← hj]
    match j, e with
    | 0, e | 1, e | 2, e | 3, e | 4, e | 5, e => simp only [BB, up_ne _ _ e]
    | 6, e =>
      have e1 : sdC (up p (R.length + 7) a) (up c (R.length + 7) b) (R ++ [r']) q.n = sdC p c q.rows q.n := sdC_congr fun k hk => ⟨up_ne _ _ (by omega), up_ne _ _ (by omega), by rw [gR_app (by omega), hg k (by omega)]⟩
      simp only [BB, up_ne _ _ e, e1]
    | k + 7, e =>
      have hk : k ≠ R.length := fun g => e (by rw [g])
      by_cases h1 : k < R.length
      · have h2 : k < (R ++ [r']).length := by rw [List.length_append]; omega
        have h3 : k < q.rows.length := by
          rcases hq with e | e
          · rw [e]; exact h1
          · rw [e, List.length_append]; omega
        simp only [BB, h2, h3, if_true, up_ne _ _ e, gR_app h1, hg k h1]
      · have h2 : ¬ k < (R ++ [r']).length := by rw [List.length_append]; simp; omega
        have h3 : ¬ k < q.rows.length := by
          rcases hq with e | e
          · rw [e]; exact h1
          · rw [e, List.length_append, List.length_cons, List.length_nil]; omega
        simp only [BB, h2, h3, if_false]
theorem F5.put_row (h : F5 σ q H p c) (hn : q.n ≤ q.rows.length) : F5 σ { q with rows := q.rows ++ [[]] } (H ++ [AB.rw ty_int [] 0]) (up p (q.rows.length + 7) H.length) (up c (q.rows.length + 7) 0) := by
  have := h.app0 (i := q.rows.length + 7) (q' := { q with rows := q.rows ++ [[]] }) (c' := up c (q.rows.length + 7) 0) (if_neg (Nat.lt_irrefl _)) [] (.rw ty_int [] 0) (n := H.length) (by simp) fun j x hj => BB_row (r := []) (.inl rfl) hn _ _ hj
  rw [List.append_nil] at this
  exact F5.mk0 this (outC_up { q with rows := q.rows ++ [[]] } p c _ _ (.inr (by omega)))
theorem F5.app_row (h : F5 σ q H p c) {R : List (List Int)} {r : List Int} (hq : q.rows = R ++ [r]) (hn : q.n ≤ R.length) (r' : List Int) (cap : Nat) (one : AB) :
    F5 σ { q with rows := R ++ [r'] } ((H ++ [one]).set (p (R.length + 7)) .dead ++ [AB.rw ty_int (encInt.row r') (cap * 1)]) (up p (R.length + 7) (H.length + 1)) (up c (R.length + 7) cap) := by
  refine F5.mk0 (h.app (i := R.length + 7) (b := .rw ty_int (encInt.row r) (c (R.length + 7) * 1)) (by simp [BB, hq, gR_last]) one _ fun j x hj => BB_row (.inr hq) hn _ _ hj) (outC_up { q with rows := R ++ [r'] } p c _ _ (.inr (by omega)))
theorem hB_sd (n cap : Nat) : ∀ j x, BB { q with n := q.n + 1 } (up p 6 n) (up c 6 cap) j = some x → up (BB q p c) 6 (some (.rw ty_sl_int (sdC p c q.rows (q.n + 1)) (cap * 1))) j = some x := fun j x hj => by
  by_cases e : j = 6
  · subst e; rw [up_eq]
    have e1 : sdC (up p 6 n) (up c 6 cap) q.rows (q.n + 1) = sdC p c q.rows (q.n + 1) := sdC_congr fun k hk => ⟨up_ne _ _ (by omega), up_ne _ _ (by omega), rfl⟩
    simpa [BB, up_eq, e1] using hj
  · rw [up_ne _ _ e, ← BB_up (by decide) e n cap, ← hj]
    unfold BB
    split <;> first | rfl | exact absurd rfl e
theorem F5.app_sd1 (h : F5 σ q H p c) (hq : q.n ≠ 0) (cap : Nat) (one : AB) {cs : List AV} (hcs : outC { q with n := q.n + 1 } (up p 6 (H.length + 1)) (up c 6 cap) = cs) :
    F5 σ { q with n := q.n + 1 } (((H ++ [one]).set (p 6) .dead ++ [AB.rw ty_sl_int (sdC p c q.rows (q.n + 1)) (cap * 1)]).set (σ.length + 1) (.rw ty_impl_ServerRun cs 4)) (up p 6 (H.length + 1)) (up c 6 cap) := by
  subst hcs
  exact F5.mk1 (h.app (i := 6) (b := .rw ty_sl_int (sdC p c q.rows q.n) (c 6 * 1)) (if_neg hq) one _ (hB_sd _ _))
theorem F5.app_sd0 (h : F5 σ q H p c) (hq : q.n = 0) (cap : Nat) (one : AB) {cs : List AV} (hcs : outC { q with n := q.n + 1 } (up p 6 (H.length + 1)) (up c 6 cap) = cs) :
    F5 σ { q with n := q.n + 1 } ((H ++ [one] ++ [AB.rw ty_sl_int (sdC p c q.rows (q.n + 1)) (cap * 1)]).set (σ.length + 1) (.rw ty_impl_ServerRun cs 4)) (up p 6 (H.length + 1)) (up c 6 cap) := by
  subst hcs
  exact F5.mk1 (h.app0 (i := 6) (if_pos hq) [one] _ (by simp) (hB_sd _ _))
end
def q4 (L : List Job) (k : Nat) : Q5 := ⟨(L.take k).map Job.E, L.map Job.D, [], [], List.replicate k (-1), [], [], 0, true⟩
def W3 (X : List Srv) (AA : List (List Arr)) (k : Nat) : List St5 := (List.range k).map fun q => st5 (gAA AA q) (sv0 (gS X q))
def R3 (AA : List (List Arr)) (k : Nat) : List (List Int) := (List.range k).map fun q => List.replicate (gAA AA q).length (-1)
def q3 (L : List Job) (X : List Srv) (AA : List (List Arr)) (k : Nat) : Q5 := ⟨L.map Job.E, L.map Job.D, W3 X AA k, [], List.replicate L.length (-1), [], R3 AA k, k, false⟩
theorem W3_len (X : List Srv) (AA : List (List Arr)) (k : Nat) : (W3 X AA k).length = k := by simp [W3]
theorem R3_len (AA : List (List Arr)) (k : Nat) : (R3 AA k).length = k := by simp [R3]
theorem W3_succ (X : List Srv) (AA : List (List Arr)) (k : Nat) : W3 X AA (k + 1) = W3 X AA k ++ [st5 (gAA AA k) (sv0 (gS X k))] := by unfold W3; rw [List.range_succ, List.map_append]; rfl
theorem R3_succ (AA : List (List Arr)) (k : Nat) : R3 AA (k + 1) = R3 AA k ++ [List.replicate (gAA AA k).length (-1)] := by unfold R3; rw [List.range_succ, List.map_append]; rfl
theorem appSt (L : List St5) (s : St5) : encSt5.row L ++ [.i .i64 s.left, .i .i64 s.dl, .i .i64 s.come, .i .i64 s.head, .i .i64 s.rest] = encSt5.row (L ++ [s]) := by rw [encSt5.row_append, encSt5.row_one]; rfl
theorem vI_data (p c : Nat → Nat) (i n : Nat) : (vI p c i n).data = true := by unfold vI; split <;> rfl
theorem cells_rw {H : List AB} {n : Nat} {ty : TypeId} {cs : List AV} {r : Nat} (h : H[n]? = some (.rw ty cs r)) : cellsOf H n = some cs := by simp only [cellsOf, h]
theorem base_split {σ H : List AB} (hb : ∀ m, m < σ.length → H[m]? = σ[m]?) : σ ++ H.drop σ.length = H := by
  apply List.ext_getElem?
  intro i
  by_cases h : i < σ.length
  · rw [List.getElem?_append_left h, hb i h]
  · rw [List.getElem?_append_right (by omega), List.getElem?_drop]; congr 1; omega
theorem vI_rd {N : Nat} {H : List AB} {p c : Nat → Nat} {q : Q5} {i n : Nat} {l : List Int} (hl : l.length = n) (hL : Lay N H p (BB q p c)) (hB : BB q p c i = if l = [] then none else some (.rw ty_int (encInt.row l) (c i * 1))) (h0 : 0 < H.length) : Rd encInt H (vI p c i n) l := by
  unfold vI
  split
  · rename_i h; exact .inr ⟨rfl, List.eq_nil_of_length_eq_zero (by omega), h0⟩
  · rename_i h
    have hne : l ≠ [] := fun e => h (by rw [← hl, e]; rfl)
    rw [if_neg hne] at hB
    exact Rd.own' (cells_rw (hL.at hB)) hl
theorem l5_final {σ H : List AB} {X : List Srv} {AA : List (List Arr)} {L : List Job} {p c : Nat → Nat} (hAl : AA.length = X.length) (hF : F5 σ (qT X AA L 120) H p c) (b : AB) :
    SrvAnsN σ.length (H.set σ.length b) (.agg [vI p c 3 120, vI p c 4 L.length, vI p c 5 120, vI p c 6 X.length]) (srvRun X AA L) (srvFin X AA L) (srvCh X AA L) (srvSd X AA L) := by
  intro σ9 hl9 hs9
  have hL0 := hF.lay.low (n := σ.length) (by omega) b
  have hL : Lay (σ.length + 2) σ9 p (BB (qT X AA L 120) p c) := ⟨fun i b hi => ⟨hL0.ge hi, by rw [hs9 _ (by have := hL0.ge hi; omega)]; exact hL0.at hi⟩, hL0.2⟩
  have hlen := hF.len
  have h0 : 0 < σ9.length := by rw [hl9, List.length_set]; omega
  have hfl := (sim_lens (L := L) (pick := srvPick X AA L) (s0 := ss0 X AA) 120).2
  change (srvS X AA L 120).fin.length = L.length ∧ (srvS X AA L 120).run.length = 120 at hfl
  have hssl := ss_len (L := L) (X := X) (AA := AA) hAl 120
  have hch : chT X AA L 120 = (srvS X AA L 120).st.ch := by
    apply List.ext_getElem
    · rw [chT_len, hssl.2.1]
    · intro i h1 h2
      rw [chT_len] at h1
      have := ch_at (X := X) (AA := AA) (L := L) hAl 120 i (by omega) h1
      rw [if_pos h1] at this
      rw [show (chT X AA L 120)[i] = goT X AA L i by simp [chT], ← this]
      simp [gI, List.getD_eq_getElem?_getD, h2]
  refine ⟨_, _, _, _, rfl, vI_rd hfl.2 hL rfl h0, vI_rd hfl.1 hL rfl h0, ?_, ?_⟩
  · have := vI_rd (i := 5) (l := chT X AA L 120) (chT_len 120) hL rfl h0
    rw [hch] at this; exact this
  · unfold vI
    have hsl : (srvSd X AA L).length = X.length := hssl.1
    split
    · rename_i h
      exact .inr ⟨rfl, List.eq_nil_of_length_eq_zero (by omega), h0⟩
    · rename_i h
      have h6 : σ9[p 6]? = some (.rw ty_sl_int (sdC p c (srvSd X AA L) X.length) (c 6 * 1)) := hL.at (i := 6) (if_neg h)
      refine .inl ⟨p 6, 0, c 6, _, by rw [hsl], cells_rw h6, by simp [sdC]; omega, fun k hk => ?_⟩
      have hkX : k < X.length := by omega
      have h7 : σ9[p (k + 7)]? = some (.rw ty_int (encInt.row (Go.Ds.gR (srvSd X AA L) k)) (c (k + 7) * 1)) := hL.at (i := k + 7) (if_pos (show k < (srvS X AA L 120).st.sd.length by rw [hssl.1]; exact hkX))
      rw [show rd (sdC p c (srvSd X AA L) X.length) (0 + k) = .sl (p (k + 7)) 0 (Go.Ds.gR (srvSd X AA L) k).length (c (k + 7)) by simp [sdC, rd, hkX], show (srvSd X AA L)[k] = Go.Ds.gR (srvSd X AA L) k by simp [Go.Ds.gR, List.getD_eq_getElem?_getD, hk]]
      exact Rd.own' (cells_rw h7) rfl
theorem q3_all {X : List Srv} {AA : List (List Arr)} {L : List Job} (hAl : AA.length = X.length) : q3 L X AA X.length = qT X AA L 0 := by
  have e1 : leftOf L (srvS X AA L 0).done = L.map Job.E := leftOf_zero L
  have e2 : W3 X AA X.length = stW X AA (svT X AA L 0) := stW_congr fun k hk => (sv_zero hk).symm
  have e3 : R3 AA X.length = (srvS X AA L 0).st.sd := by
    show R3 AA X.length = AA.map fun a => List.replicate a.length (-1)
    rw [← hAl]
    apply List.ext_getElem
    · simp [R3]
    · intro i h1 h2
      have hi : i < AA.length := by simpa using h2
      simp [R3, gAA, List.getD_eq_getElem?_getD, hi]
  unfold q3 qT
  rw [e1, e2, e3]; rfl
def bT (N jn jo jc nL xn xo xc nX an ao ac nA : Nat) (p c : Nat → Nat) (k i : Nat) : List (Nat × AV) :=
  [(0, .sl jn jo nL jc), (1, .sl xn xo nX xc), (2, .sl an ao nA ac), (6, .p N 0), (7, .p (N + 1) 0), (8, .sl (p 0) 0 nL (c 0)), (9, .sl (p 1) 0 nL (c 1)), (11, .sl (p 2) 0 (k + 1) (c 2)), (12, .i .i64 k), (13, .sl (p (k + 7)) 0 i (c (k + 7)))]
def hasT (T b : List (Nat × AV)) : Prop := ∀ q ∈ b, Go.Abs.look T q.1 = q.2
theorem sdC_succ (p c : Nat → Nat) (R : List (List Int)) (n : Nat) : sdC p c R (n + 1) = sdC p c R n ++ [.sl (p (n + 7)) 0 (Go.Ds.gR R n).length (c (n + 7))] := by unfold sdC; rw [List.range_succ, List.map_append]; rfl
theorem spec_l5Run_ {σ : List AB} {S : List Task} {X : List Srv} {AA : List (List Arr)} {L : List Job} {jn jo jc xn xo xc an ao ac : Nat} {K : AV → List AB → Prop} (hok : srvRunOk S L X AA) (hv : Rd encJob σ (.sl jn jo L.length jc) L) (hX : Rd encSrv σ (.sl xn xo X.length xc) X) (hA : RdA σ (.sl an ao AA.length ac) AA)
    (hy : ∀ τ x, SrvAnsN σ.length (σ ++ τ) x (srvRun X AA L) (srvFin X AA L) (srvCh X AA L) (srvSd X AA L) → K x (σ ++ τ)) :
    CallWp Try.prog n_spec_l5Run [.sl jn jo L.length jc, .sl xn xo X.length xc, .sl an ao AA.length ac] σ K := by
  have hl60 : L.length ≤ 60 := hok.1.2.1.1
  have hAl := hok.2.2.1
  have hXo := hok.2.1
  obtain ⟨xcs, hxc, hxl, hxw⟩ : ∃ xcs : List AV, cellsOf σ xn = some xcs ∧ xo + X.length * 2 ≤ xcs.length ∧ win xcs xo (X.length * 2) = encSrv.row X := by
    rcases hX with ⟨n, o, cap, cs, e, _, h⟩ | ⟨e, _⟩
    · cases e; exact ⟨cs, h⟩
    · cases e
  obtain ⟨jcs, hjc, hjl, hjw⟩ : ∃ jcs : List AV, cellsOf σ jn = some jcs ∧ jo + L.length * encJob.k ≤ jcs.length ∧ win jcs jo (L.length * encJob.k) = encJob.row L := by
    rcases hv with ⟨n, o, cap, cs, e, _, h⟩ | ⟨e, _⟩
    · cases e; exact ⟨cs, h⟩
    · cases e
  obtain ⟨acs, hac, hal, har⟩ : ∃ acs : List AV, cellsOf σ an = some acs ∧ ao + AA.length ≤ acs.length ∧ ∀ k (h : k < AA.length), Rd encArr σ (rd acs (ao + k)) AA[k] := by
    rcases hA with ⟨n, o, cap, cs, e, h⟩ | ⟨e, _⟩
    · cases e; exact ⟨cs, h⟩
    · cases e
  have hcc : ∀ {n cs}, cellsOf σ n = some cs → ∀ {H q p c}, F5 σ q H p c → cellsOf H n = some cs := fun hc _ _ _ _ h => by
    have := cells_lt hc
    unfold cellsOf at hc ⊢
    rw [h.base _ this]; exact hc
  refine call_spec_l5Run (by simp) ?_
  simp only [c_spec_l5Run, List.append_assoc, at_new0, at_new, set_new, set_new0, hv.data, not_true_eq_false, not_false_eq_true, decide_true, decide_false, Bool.not_true, Bool.not_false, false_implies, true_implies, and_true, true_and, Bool.false_eq_true, Bool.true_eq_false, implies_true, Bool.not_not, Classical.not_not, go_sem, Int.reduceToNat, List.take_nil, Nat.zero_mul, Nat.reduceEqDiff, Nat.reduceAdd, Nat.reduceLT, Nat.reduceLeDiff, Nat.reduceMul, ↓reduceIte, reduceCtorEq]
  refine spec_l3Deadlines_ (L := L) (by omega) hv.app fun c1 => ?_
  simp only [List.append_assoc, not_true_eq_false, not_false_eq_true, decide_true, decide_false, Bool.not_true, Bool.not_false, false_implies, true_implies, and_true, true_and, Bool.false_eq_true, Bool.true_eq_false, implies_true, Bool.not_not, Classical.not_not, go_sem, Int.reduceToNat, List.take_nil, Nat.zero_mul, Nat.reduceEqDiff, Nat.reduceAdd, Nat.reduceLT, Nat.reduceLeDiff, Nat.reduceMul, ↓reduceIte, reduceCtorEq]
  refine loop_intro (fun i : List AB × (Nat → Nat) × (Nat → Nat) × Nat => ⟨[(0, .sl jn jo L.length jc), (1, .sl xn xo X.length xc), (2, .sl an ao AA.length ac), (6, .p σ.length 0), (7, .p (σ.length + 1) 0), (8, .sl (i.2.1 0) 0 i.2.2.2 (i.2.2.1 0)), (9, .sl (i.2.1 1) 0 L.length (i.2.2.1 1)), (10, .i .i64 i.2.2.2)], i.1⟩)
    (fun i => F5 σ (q4 L i.2.2.2) i.1 i.2.1 i.2.2.1 ∧ i.2.2.2 ≤ L.length) (fun i => L.length - i.2.2.2) (_, fun i => if i = 0 then σ.length + 2 else σ.length + 3, fun i => if i = 0 then 0 else c1, 0) ⟨?_, Nat.zero_le _⟩ (Wk.keep (by simp [look_cons])) ?_
  · show F5 σ (q4 L 0) _ _ _
    dsimp only
    refine ⟨fun m hm => List.getElem?_append_left hm, by rw [at_new0]; rfl, by rw [at_new]; rfl, ⟨fun i b hb => ?_, fun i j bi bj hi hj hp => ?_⟩, by simp⟩
    · match i, hb with
      | 0, hb => exact ⟨Nat.le_refl _, by show (σ ++ [_, _, _, _])[σ.length + 2]? = some b; rw [at_new, ← hb]; rfl⟩
      | 1, hb => exact ⟨by simp, by show (σ ++ [_, _, _, _])[σ.length + 3]? = some b; rw [at_new, ← hb]; simp [q4, BB]⟩
      | 2, hb | 3, hb | 4, hb | 5, hb | 6, hb => cases hb
      | k + 7, hb => simp [BB, q4] at hb
    · have key : ∀ i b, BB (q4 L 0) (fun i => if i = 0 then σ.length + 2 else σ.length + 3) (fun i => if i = 0 then 0 else c1) i = some b → i = 0 ∨ i = 1 := fun i b hb => by
        match i, hb with
        | 0, _ => exact .inl rfl
        | 1, _ => exact .inr rfl
        | 2, hb | 3, hb | 4, hb | 5, hb | 6, hb => cases hb
        | k + 7, hb => simp [BB, q4] at hb
      rcases key i bi hi with rfl | rfl <;> rcases key j bj hj with rfl | rfl <;> simp at hp ⊢
  rintro ⟨H, p, c, k⟩ ⟨hF, hk⟩
  simp only at hF hk
  rw [l4_spec_l5Run]
  refine seq_cut (fun s' => k < L.length ∧ ∃ a1 a2 a3 a4, s' = ⟨(28, a1) :: (27, a2) :: (26, a3) :: (25, a4) :: [(0, .sl jn jo L.length jc), (1, .sl xn xo X.length xc), (2, .sl an ao AA.length ac), (6, .p σ.length 0), (7, .p (σ.length + 1) 0), (8, .sl (p 0) 0 k (c 0)), (9, .sl (p 1) 0 L.length (c 1)), (10, .i .i64 k)], H⟩) ?_ ?_
  · simp only [not_true_eq_false, not_false_eq_true, decide_true, decide_false, Bool.not_true, Bool.not_false, false_implies, true_implies, and_true, true_and, Bool.false_eq_true, Bool.true_eq_false, implies_true, Bool.not_not, Classical.not_not, go_sem, Int.reduceToNat, List.take_nil, Nat.zero_mul, Nat.reduceEqDiff, Nat.reduceAdd, Nat.reduceLT, Nat.reduceLeDiff, Nat.reduceMul, ↓reduceIte, reduceCtorEq]
    refine ⟨fun hkl => ⟨hkl, _, _, _, _, rfl⟩, fun hkl => ?_⟩
    have e : k = L.length := by omega
    subst e
    have hF1 := hF.put_W rfl
    have hq0 : ({ q4 L L.length with W := [], nw := false } : Q5) = q3 L X AA 0 := by unfold q4; rw [List.take_length]; rfl
    rw [hq0] at hF1
    refine loop_intro (fun i : List AB × (Nat → Nat) × (Nat → Nat) × Nat => ⟨[(0, .sl jn jo L.length jc), (1, .sl xn xo X.length xc), (2, .sl an ao AA.length ac), (6, .p σ.length 0), (7, .p (σ.length + 1) 0), (8, .sl (i.2.1 0) 0 L.length (i.2.2.1 0)), (9, .sl (i.2.1 1) 0 L.length (i.2.2.1 1)), (11, .sl (i.2.1 2) 0 i.2.2.2 (i.2.2.1 2)), (12, .i .i64 i.2.2.2)], i.1⟩)
      (fun i => F5 σ (q3 L X AA i.2.2.2) i.1 i.2.1 i.2.2.1 ∧ i.2.2.2 ≤ X.length) (fun i => X.length - i.2.2.2) (_, up p 2 H.length, up c 2 0, 0) ⟨hF1, Nat.zero_le _⟩ (Wk.keep (by simp [look_cons, up])) ?_
    clear hF1 hq0 hF
    clear H p c
    rintro ⟨H, p, c, k⟩ ⟨hF, hk⟩
    simp only at hF hk
    rw [l3_spec_l5Run]
    refine seq_cut (fun s' => k < X.length ∧ ∃ a1 a2 a3 a4, s' = ⟨(50, a1) :: (49, a2) :: (48, a3) :: (47, a4) :: [(0, .sl jn jo L.length jc), (1, .sl xn xo X.length xc), (2, .sl an ao AA.length ac), (6, .p σ.length 0), (7, .p (σ.length + 1) 0), (8, .sl (p 0) 0 L.length (c 0)), (9, .sl (p 1) 0 L.length (c 1)), (11, .sl (p 2) 0 k (c 2)), (12, .i .i64 k)], H⟩) ?_ ?_
    · simp only [not_true_eq_false, not_false_eq_true, decide_true, decide_false, Bool.not_true, Bool.not_false, false_implies, true_implies, and_true, true_and, Bool.false_eq_true, Bool.true_eq_false, implies_true, Bool.not_not, Classical.not_not, go_sem, Int.reduceToNat, List.take_nil, Nat.zero_mul, Nat.reduceEqDiff, Nat.reduceAdd, Nat.reduceLT, Nat.reduceLeDiff, Nat.reduceMul, ↓reduceIte, reduceCtorEq]
      refine ⟨fun hkl => ⟨hkl, _, _, _, _, rfl⟩, fun hkl => ?_⟩
      have e : k = X.length := by omega
      subst e
      rw [q3_all hAl] at hF
      refine loop_intro (Θ5 σ.length (.sl jn jo L.length jc) (.sl xn xo X.length xc) (.sl an ao AA.length ac) L.length X.length) (J5 σ X AA L) (fun i => 120 - i.2.2.2) (H, p, c, 0) ⟨hF, Nat.zero_le _⟩ (Wk.keep (by simp [look_cons])) ?_
      clear hF
      clear H p c
      rintro ⟨H, p, c, t⟩ ⟨hF, ht⟩
      simp only at hF ht
      by_cases ht' : t < 120
      · exact l5_tick hok hv hX hA hF ht'
      · have e : t = 120 := by omega
        subst e
        have hfl := (sim_lens (L := L) (pick := srvPick X AA L) (s0 := ss0 X AA) 120).2
        change (srvS X AA L 120).fin.length = L.length ∧ (srvS X AA L 120).run.length = 120 at hfl
        have hout : H[σ.length + 1]? = some (.rw ty_impl_ServerRun [vI p c 3 120, vI p c 4 L.length, vI p c 5 120, vI p c 6 X.length] 4) := by
          rw [hF.out]; simp [outC, qT, hfl.1, hfl.2, chT_len]
        have hres := hF.res
        have hlen := hF.len
        have hset : ∀ B : AB, (H.set σ.length B)[σ.length]? = some B := fun B => List.getElem?_set_self (by omega)
        simp only [l1_spec_l5Run, Θ5, hout, hres, hset, vI_data, not_true_eq_false, not_false_eq_true, decide_true, decide_false, Bool.not_true, Bool.not_false, false_implies, true_implies, and_true, true_and, Bool.false_eq_true, Bool.true_eq_false, implies_true, Bool.not_not, Classical.not_not, go_sem, Int.reduceToNat, List.take_nil, Nat.zero_mul, Nat.reduceEqDiff, Nat.reduceAdd, Nat.reduceLT, Nat.reduceLeDiff, Nat.reduceMul, ↓reduceIte, reduceCtorEq]
        refine ⟨fun h => absurd h (by omega), fun _ => ?_⟩
        have hb : ∀ B : AB, ∀ m, m < σ.length → (H.set σ.length B)[m]? = σ[m]? := fun B m hm => by rw [List.getElem?_set_ne (by omega)]; exact hF.base m hm
        refine Fin.plain ?_
        rw [← base_split (hb _)]
        refine hy _ _ ?_
        rw [base_split (hb _)]
        exact l5_final hAl hF _
    · rintro _ ⟨hkl, a1, a2, a3, a4, rfl⟩
      have hkA : k < AA.length := by omega
      have hgx : gS X k = X[k] := by simp [gS, List.getD_eq_getElem?_getD, hkl]
      have hgA : gAA AA k = AA[k] := by simp [gAA, List.getD_eq_getElem?_getD, hkA]
      have hX2 := hXo.1
      have w1 := rd_at (E := encSrv) hxl hxw k hkl 0 (by decide)
      simp only [encSrv, Nat.add_zero, rd_zero] at w1
      have hWo : H[p 2]? = some (.rw ty_spec_l5State (encSt5.row (W3 X AA k)) (c 2 * 5)) := hF.W_at
      have hl0 : (encSt5.row (W3 X AA k)).length = k * 5 := by rw [lenSt, W3_len]
      rw [wpC_seq, wpC_block]
      refine seq_cut (fun s' => ∃ b1 b2 b3 b4 b5 b6 b7 b8 b9 cap H2, s' = ⟨(11, .sl (H.length + 1) 0 (k + 1) cap) :: (61, b1) :: (60, b2) :: (59, b3) :: (58, b4) :: (57, b5) :: (56, b6) :: (55, b7) :: (54, b8) :: (53, b9) :: (50, a1) :: (49, a2) :: (48, a3) :: (47, a4) :: [(0, .sl jn jo L.length jc), (1, .sl xn xo X.length xc), (2, .sl an ao AA.length ac), (6, .p σ.length 0), (7, .p (σ.length + 1) 0), (8, .sl (p 0) 0 L.length (c 0)), (9, .sl (p 1) 0 L.length (c 1)), (11, .sl (p 2) 0 k (c 2)), (12, .i .i64 k)], H2⟩ ∧
        F5 σ { q3 L X AA k with W := W3 X AA (k + 1) } H2 (up p 2 (H.length + 1)) (up c 2 cap)) ?_ ?_
      · have f1 : ∀ one : AB, (H ++ [one])[p 2]? = some (.rw ty_spec_l5State (encSt5.row (W3 X AA k)) (c 2 * 5)) := fun one => at_old hWo _
        simp only [onC_of (hcc hxc hF), w1.2, f1, at_new0, hl0, not_true_eq_false, not_false_eq_true, decide_true, decide_false, Bool.not_true, Bool.not_false, false_implies, true_implies, and_true, true_and, Bool.false_eq_true, Bool.true_eq_false, implies_true, Bool.not_not, Classical.not_not, go_sem, Int.reduceToNat, List.take_nil, Nat.zero_mul, Nat.reduceEqDiff, Nat.reduceAdd, Nat.reduceLT, Nat.reduceLeDiff, Nat.reduceMul, ↓reduceIte, reduceCtorEq]
        refine ⟨hkl, w1.1, by omega, fun cap hcap => ⟨_, _, _, _, _, _, _, _, _, cap, _, rfl, ?_⟩⟩
        have := hF.app_W rfl (W3 X AA (k + 1)) cap (.rw ty_spec_l5State [.i .i64 X[k].B, .i .i64 0, .i .i64 0, .i .i64 0, .i .i64 0] 5)
        have e3 : (encSt5.row (W3 X AA k)).take (k * 5) = encSt5.row (W3 X AA k) := List.take_of_length_le (by rw [hl0]; omega)
        have e4 : encSt5.row (W3 X AA (k + 1)) = encSt5.row (W3 X AA k) ++ [.i .i64 X[k].B, .i .i64 0, .i .i64 0, .i .i64 0, .i .i64 0] := by
          rw [W3_succ, ← appSt, hgx]; rfl
        rw [e4] at this
        rw [e3]
        exact this
      · rintro _ ⟨b1, b2, b3, b4, b5, b6, b7, b8, b9, cap, H2, rfl, hF2⟩
        have e0 : (AV.sl (H.length + 1) 0 (k + 1) cap) = .sl (up p 2 (H.length + 1) 2) 0 (k + 1) (up c 2 cap 2) := rfl
        have hp1 : up p 2 (H.length + 1) 1 = p 1 := rfl
        have hc1 : up c 2 cap 1 = c 1 := rfl
        have hp0 : up p 2 (H.length + 1) 0 = p 0 := rfl
        have hc0 : up c 2 cap 0 = c 0 := rfl
        rw [e0, ← hp1, ← hc1, ← hp0, ← hc0]
        clear e0 hp1 hc1 hp0 hc0 hWo
        generalize up p 2 (H.length + 1) = p2 at *
        generalize up c 2 cap = c2 at *
        have hlen := hF2.len
        have hR : (R3 AA k).length = k := R3_len AA k
        have hF3 := hF2.put_row (by show k ≤ (R3 AA k).length; omega)
        change F5 σ { ({ q3 L X AA k with W := W3 X AA (k + 1) } : Q5) with rows := R3 AA k ++ [[]] } _ (up p2 ((R3 AA k).length + 7) H2.length) (up c2 ((R3 AA k).length + 7) 0) at hF3
        rw [hR] at hF3
        refine seq_cut (fun s' => ∃ T', s' = ⟨T', H2 ++ [AB.rw ty_int [] 0]⟩ ∧ hasT T' (bT σ.length jn jo jc L.length xn xo xc X.length an ao ac AA.length (up p2 (k + 7) H2.length) (up c2 (k + 7) 0) k 0)) ?_ ?_
        · simp only [not_true_eq_false, not_false_eq_true, decide_true, decide_false, Bool.not_true, Bool.not_false, false_implies, true_implies, and_true, true_and, Bool.false_eq_true, Bool.true_eq_false, implies_true, Bool.not_not, Classical.not_not, go_sem, Int.reduceToNat, List.take_nil, Nat.zero_mul, Nat.reduceEqDiff, Nat.reduceAdd, Nat.reduceLT, Nat.reduceLeDiff, Nat.reduceMul, ↓reduceIte, reduceCtorEq]
          refine ⟨_, rfl, ?_⟩
          intro q hq
          simp only [bT, List.mem_cons, List.not_mem_nil, or_false] at hq
          rcases hq with rfl | rfl | rfl | rfl | rfl | rfl | rfl | rfl | rfl | rfl <;> simp [look_cons, up]
        rintro _ ⟨T', rfl, hT⟩
        generalize H2 ++ [AB.rw ty_int [] 0] = H3 at *
        generalize up p2 (k + 7) H2.length = p3 at *
        generalize up c2 (k + 7) 0 = c3 at *
        have hAk := arrsOk.at hok.2.2 hkl
        refine seq_cut (fun s' => ∃ T' H p c, s' = ⟨T', H⟩ ∧ F5 σ { ({ q3 L X AA k with W := W3 X AA (k + 1) } : Q5) with rows := R3 AA k ++ [List.replicate (gAA AA k).length (-1)] } H p c ∧ hasT T' (bT σ.length jn jo jc L.length xn xo xc X.length an ao ac AA.length p c k (gAA AA k).length)) ?_ ?_
        · simp only [not_true_eq_false, not_false_eq_true, decide_true, decide_false, Bool.not_true, Bool.not_false, false_implies, true_implies, and_true, true_and, Bool.false_eq_true, Bool.true_eq_false, implies_true, Bool.not_not, Classical.not_not, go_sem, Int.reduceToNat, List.take_nil, Nat.zero_mul, Nat.reduceEqDiff, Nat.reduceAdd, Nat.reduceLT, Nat.reduceLeDiff, Nat.reduceMul, ↓reduceIte, reduceCtorEq]
          refine loop_intro (fun i : List AB × (Nat → Nat) × (Nat → Nat) × Nat => ⟨(14, .i .i64 i.2.2.2) :: bT σ.length jn jo jc L.length xn xo xc X.length an ao ac AA.length i.2.1 i.2.2.1 k i.2.2.2, i.1⟩)
            (fun i => F5 σ { ({ q3 L X AA k with W := W3 X AA (k + 1) } : Q5) with rows := R3 AA k ++ [List.replicate i.2.2.2 (-1)] } i.1 i.2.1 i.2.2.1 ∧ i.2.2.2 ≤ (gAA AA k).length) (fun i => (gAA AA k).length - i.2.2.2) (H3, p3, c3, 0) ⟨hF3, Nat.zero_le _⟩ (Wk.keep ?_) ?_
          · intro q hq
            rcases List.mem_cons.1 hq with rfl | hq
            · simp [look_cons]
            · have h1 := hT q hq
              simp only [bT, List.mem_cons, List.not_mem_nil, or_false] at hq
              rcases hq with rfl | rfl | rfl | rfl | rfl | rfl | rfl | rfl | rfl | rfl <;> simpa [look_cons] using h1
          clear hT hF3 hF2 hlen
          rintro ⟨H, p, c, i⟩ ⟨hF, hi⟩
          simp only at hF hi
          have r1 := hF.rd (har k hkA)
          rw [← hgA] at r1
          have hex : ∀ {A : List Arr}, gAA AA k = A → i = A.length → hasT (bT σ.length jn jo jc L.length xn xo xc X.length an ao ac AA.length p c k i) (bT σ.length jn jo jc L.length xn xo xc X.length an ao ac AA.length p c k (gAA AA k).length) := fun e1 e2 => by
            rw [e1, ← e2]
            intro q hq
            simp only [bT, List.mem_cons, List.not_mem_nil, or_false] at hq
            rcases hq with rfl | rfl | rfl | rfl | rfl | rfl | rfl | rfl | rfl | rfl <;> simp [bT, look_cons]
          have hrow : H[p (k + 7)]? = some (.rw ty_int (encInt.row (List.replicate i (-1))) (c (k + 7) * 1)) := by
            refine hF.lay.at (i := k + 7) ?_
            have h1 : k < (R3 AA k ++ [List.replicate i (-1)]).length := by rw [List.length_append, hR]; simp
            have h2 := gR_last (R3 AA k) (List.replicate i (-1))
            rw [hR] at h2
            simp only [BB, h1, if_true, h2]
          have f1 : ∀ one : AB, (H ++ [one])[p (k + 7)]? = some (.rw ty_int (encInt.row (List.replicate i (-1))) (c (k + 7) * 1)) := fun one => at_old hrow _
          have hlc : (encInt.row (List.replicate i (-1))).length = i := by rw [lenI]; simp
          have hA20 := hAk.1
          generalize hva : rd acs (ao + k) = va at r1
          rcases r1 with ⟨na, oa, ca', csa, rfl, hna, hca2, hla, hwa⟩ | ⟨rfl, hnil, _⟩
          · simp only [l2_spec_l5Run, bT, onC_of (hcc hac hF), hva, f1, at_new0, hlc, not_true_eq_false, not_false_eq_true, decide_true, decide_false, Bool.not_true, Bool.not_false, false_implies, true_implies, and_true, true_and, Bool.false_eq_true, Bool.true_eq_false, implies_true, Bool.not_not, Classical.not_not, go_sem, Int.reduceToNat, List.take_nil, Nat.zero_mul, Nat.reduceEqDiff, Nat.reduceAdd, Nat.reduceLT, Nat.reduceLeDiff, Nat.reduceMul, ↓reduceIte, reduceCtorEq]
            refine ⟨hkA, by omega, fun hil => ⟨by omega, fun cap hcap => ?_⟩, fun hil => ?_⟩
            · have := hF.app_row (R := R3 AA k) (r := List.replicate i (-1)) rfl (by show k ≤ _; omega) (List.replicate (i + 1) (-1)) cap (.rw ty_int [.i .i64 (-1)] 1)
              rw [hR] at this
              have e3 : (encInt.row (List.replicate i (-1))).take i = encInt.row (List.replicate i (-1)) := List.take_of_length_le (by rw [hlc]; omega)
              have e4 : List.replicate (i + 1) (-1 : Int) = List.replicate i (-1) ++ [-1] := List.replicate_succ'
              rw [Nat.mul_one, e4, ← appI] at this
              rw [e3]
              exact ⟨by omega, (_, up p (k + 7) (H.length + 1), up c (k + 7) cap, i + 1), ⟨⟨by rw [e4]; exact this, by simp only; omega⟩, by simp only; omega⟩, Wk.keep (by simp [look_cons, up])⟩
            · have e : i = (gAA AA k).length := by omega
              refine ⟨_, H, p, c, rfl, by rw [← e]; exact hF, ?_⟩
              intro q hq
              simp only [List.mem_cons, List.not_mem_nil, or_false] at hq
              rcases hq with rfl | rfl | rfl | rfl | rfl | rfl | rfl | rfl | rfl | rfl <;> simp [look_cons, e]
          · simp only [l2_spec_l5Run, bT, onC_of (hcc hac hF), hva, f1, at_new0, hlc, not_true_eq_false, not_false_eq_true, decide_true, decide_false, Bool.not_true, Bool.not_false, false_implies, true_implies, and_true, true_and, Bool.false_eq_true, Bool.true_eq_false, implies_true, Bool.not_not, Classical.not_not, go_sem, Int.reduceToNat, List.take_nil, Nat.zero_mul, Nat.reduceEqDiff, Nat.reduceAdd, Nat.reduceLT, Nat.reduceLeDiff, Nat.reduceMul, ↓reduceIte, reduceCtorEq]
            have e : i = (gAA AA k).length := by rw [hnil] at hi ⊢; simpa using hi
            refine ⟨hkA, by omega, fun h => absurd h (by omega), fun _ => ⟨_, H, p, c, rfl, by rw [← e]; exact hF, ?_⟩⟩
            intro q hq
            simp only [List.mem_cons, List.not_mem_nil, or_false] at hq
            rcases hq with rfl | rfl | rfl | rfl | rfl | rfl | rfl | rfl | rfl | rfl <;> simp [look_cons, e]
        · rintro _ ⟨T2, H4, p4, c4, rfl, hF4, hT2⟩
          have h0 := hT2 _ (show (0, AV.sl jn jo L.length jc) ∈ _ by simp [bT])
          have h1 := hT2 _ (show (1, AV.sl xn xo X.length xc) ∈ _ by simp [bT])
          have h2 := hT2 _ (show (2, AV.sl an ao AA.length ac) ∈ _ by simp [bT])
          have h6 := hT2 _ (show (6, AV.p σ.length 0) ∈ _ by simp [bT])
          have h7 := hT2 _ (show (7, AV.p (σ.length + 1) 0) ∈ _ by simp [bT])
          have h8 := hT2 _ (show (8, AV.sl (p4 0) 0 L.length (c4 0)) ∈ _ by simp [bT])
          have h9 := hT2 _ (show (9, AV.sl (p4 1) 0 L.length (c4 1)) ∈ _ by simp [bT])
          have h11 := hT2 _ (show (11, AV.sl (p4 2) 0 (k + 1) (c4 2)) ∈ _ by simp [bT])
          have h12 := hT2 _ (show (12, AV.i .i64 k) ∈ _ by simp [bT])
          have h13 := hT2 _ (show (13, AV.sl (p4 (k + 7)) 0 (gAA AA k).length (c4 (k + 7))) ∈ _ by simp [bT])
          simp only at h0 h1 h2 h6 h7 h8 h9 h11 h12 h13
          have hlen4 := hF4.len
          have hout : H4[σ.length + 1]? = some (.rw ty_impl_ServerRun [.sn, vI p4 c4 4 L.length, .sn, vI p4 c4 6 k] 4) := by
            have e9 : outC ({ ({ q3 L X AA k with W := W3 X AA (k + 1) } : Q5) with rows := R3 AA k ++ [List.replicate (gAA AA k).length (-1)] } : Q5) p4 c4 = [vI p4 c4 3 0, vI p4 c4 4 (List.replicate L.length (-1 : Int)).length, vI p4 c4 5 0, vI p4 c4 6 k] := rfl
            rw [hF4.out, e9, List.length_replicate]; rfl
          have hg : Go.Ds.gR (R3 AA k ++ [List.replicate (gAA AA k).length (-1)]) k = List.replicate (gAA AA k).length (-1) := by
            have := gR_last (R3 AA k) (List.replicate (gAA AA k).length (-1))
            rw [hR] at this; exact this
          have hq : q3 L X AA (k + 1) = { ({ ({ q3 L X AA k with W := W3 X AA (k + 1) } : Q5) with rows := R3 AA k ++ [List.replicate (gAA AA k).length (-1)] } : Q5) with n := k + 1 } := by
            unfold q3; rw [R3_succ]
          have hsd1 : sdC p4 c4 (R3 AA k ++ [List.replicate (gAA AA k).length (-1)]) (k + 1) = sdC p4 c4 (R3 AA k ++ [List.replicate (gAA AA k).length (-1)]) k ++ [.sl (p4 (k + 7)) 0 (gAA AA k).length (c4 (k + 7))] := by
            rw [sdC_succ, hg, List.length_replicate]
          rcases Nat.eq_zero_or_pos k with hk0 | hk0
          · have hv3 : vI p4 c4 6 k = .sn := if_pos hk0
            rw [hv3] at hout
            have f2 : ∀ one new, (H4 ++ [one] ++ [new])[σ.length + 1]? = some (.rw ty_impl_ServerRun [.sn, vI p4 c4 4 L.length, .sn, .sn] 4) := fun one new => by
              rw [List.getElem?_append_left (by simp only [List.length_append]; omega), List.getElem?_append_left (by omega)]; exact hout
            simp only [h7, h12, h13, hout, at_new0, f2, not_true_eq_false, not_false_eq_true, decide_true, decide_false, Bool.not_true, Bool.not_false, false_implies, true_implies, and_true, true_and, Bool.false_eq_true, Bool.true_eq_false, implies_true, Bool.not_not, Classical.not_not, go_sem, Int.reduceToNat, List.take_nil, Nat.zero_mul, Nat.reduceEqDiff, Nat.reduceAdd, Nat.reduceLT, Nat.reduceLeDiff, Nat.reduceMul, ↓reduceIte, reduceCtorEq]
            intro cap hcap
            have := hF4.app_sd0 hk0 cap (.rw ty_sl_int [.sl (p4 (k + 7)) 0 (gAA AA k).length (c4 (k + 7))] 1) (cs := [.sn, vI p4 c4 4 L.length, .sn, .sl (H4.length + 1) 0 1 cap]) (by
              simp only [outC, q3, vI, up]; simp [hk0])
            change F5 σ { ({ ({ q3 L X AA k with W := W3 X AA (k + 1) } : Q5) with rows := R3 AA k ++ [List.replicate (gAA AA k).length (-1)] } : Q5) with n := k + 1 } ((H4 ++ [_] ++ [AB.rw ty_sl_int (sdC p4 c4 (R3 AA k ++ [List.replicate (gAA AA k).length (-1)]) (k + 1)) (cap * 1)]).set (σ.length + 1) _) _ _ at this
            rw [hsd1, show sdC p4 c4 (R3 AA k ++ [List.replicate (gAA AA k).length (-1)]) k = [] by rw [hk0]; rfl, List.nil_append, Nat.mul_one] at this
            exact ⟨by omega, (_, up p4 6 (H4.length + 1), up c4 6 cap, k + 1), ⟨⟨by rw [hq]; exact this, by simp only; omega⟩, by simp only; omega⟩, Wk.keep (by simp [look_cons, up, h0, h1, h2, h6, h7, h8, h9, h11])⟩
          · have hv3 : vI p4 c4 6 k = .sl (p4 6) 0 k (c4 6) := if_neg (by omega)
            rw [hv3] at hout
            have h5 : BB { ({ q3 L X AA k with W := W3 X AA (k + 1) } : Q5) with rows := R3 AA k ++ [List.replicate (gAA AA k).length (-1)] } p4 c4 6 = some (.rw ty_sl_int (sdC p4 c4 (R3 AA k ++ [List.replicate (gAA AA k).length (-1)]) k) (c4 6 * 1)) := if_neg (by show ¬ k = 0; omega)
            have f1 : ∀ one : AB, (H4 ++ [one])[p4 6]? = some (.rw ty_sl_int (sdC p4 c4 (R3 AA k ++ [List.replicate (gAA AA k).length (-1)]) k) (c4 6 * 1)) := fun one => at_old (hF4.lay.at h5) _
            have hlt5 := hF4.lay.lt h5
            have hge5 := hF4.lay.ge h5
            have f2 : ∀ one new : AB, ((H4 ++ [one]).set (p4 6) .dead ++ [new])[σ.length + 1]? = some (.rw ty_impl_ServerRun [.sn, vI p4 c4 4 L.length, .sn, .sl (p4 6) 0 k (c4 6)] 4) := fun one new => by
              rw [List.getElem?_append_left (by simp only [List.length_set, List.length_append]; omega), List.getElem?_set_ne (by omega), List.getElem?_append_left (by omega)]; exact hout
            have hlc : (sdC p4 c4 (R3 AA k ++ [List.replicate (gAA AA k).length (-1)]) k).length = k := by simp [sdC]
            simp only [h7, h12, h13, hout, at_new0, f1, f2, hlc, not_true_eq_false, not_false_eq_true, decide_true, decide_false, Bool.not_true, Bool.not_false, false_implies, true_implies, and_true, true_and, Bool.false_eq_true, Bool.true_eq_false, implies_true, Bool.not_not, Classical.not_not, go_sem, Int.reduceToNat, List.take_nil, Nat.zero_mul, Nat.reduceEqDiff, Nat.reduceAdd, Nat.reduceLT, Nat.reduceLeDiff, Nat.reduceMul, ↓reduceIte, reduceCtorEq]
            refine ⟨by omega, fun cap hcap => ?_⟩
            have := hF4.app_sd1 (by show k ≠ 0; omega) cap (.rw ty_sl_int [.sl (p4 (k + 7)) 0 (gAA AA k).length (c4 (k + 7))] 1) (cs := [.sn, vI p4 c4 4 L.length, .sn, .sl (H4.length + 1) 0 (k + 1) cap]) (by
              simp only [outC, q3, vI, up]; simp)
            change F5 σ { ({ ({ q3 L X AA k with W := W3 X AA (k + 1) } : Q5) with rows := R3 AA k ++ [List.replicate (gAA AA k).length (-1)] } : Q5) with n := k + 1 } (((H4 ++ [_]).set (p4 6) .dead ++ [AB.rw ty_sl_int (sdC p4 c4 (R3 AA k ++ [List.replicate (gAA AA k).length (-1)]) (k + 1)) (cap * 1)]).set (σ.length + 1) _) _ _ at this
            rw [hsd1, Nat.mul_one] at this
            rw [List.take_of_length_le (by rw [hlc]; omega)]
            exact ⟨by omega, (_, up p4 6 (H4.length + 1), up c4 6 cap, k + 1), ⟨⟨by rw [hq]; exact this, by simp only; omega⟩, by simp only; omega⟩, Wk.keep (by simp [look_cons, up, h0, h1, h2, h6, h7, h8, h9, h11])⟩
  · rintro _ ⟨hkl, a1, a2, a3, a4, rfl⟩
    have w1 := rd_at (E := encJob) hjl hjw k hkl 3 (by decide)
    simp only [encJob, rd_zero, rd_succ] at w1
    have hlo := hF.lf_at
    have hge0 := hF.lay.ge (i := 0) rfl
    have hlt0 := hF.lay.lt (i := 0) rfl
    have hlen := hF.len
    have hout : H[σ.length + 1]? = some (.rw ty_impl_ServerRun [.sn, vI p c 4 k, .sn, .sn] 4) := by
      rw [hF.out]; simp [outC, q4, vI]
    have hl0 : (encInt.row ((L.take k).map Job.E)).length = k := by rw [lenI]; simp; omega
    rw [wpC_seq, wpC_block]
    refine seq_cut (fun s' => ∃ b1 b2 b3 b4 b5 b6 b7 b8 cap H2, s' = ⟨(8, .sl (H.length + 1) 0 (k + 1) cap) :: (38, b1) :: (37, b2) :: (36, b3) :: (35, b4) :: (34, b5) :: (33, b6) :: (32, b7) :: (31, b8) :: (28, a1) :: (27, a2) :: (26, a3) :: (25, a4) :: [(0, .sl jn jo L.length jc), (1, .sl xn xo X.length xc), (2, .sl an ao AA.length ac), (6, .p σ.length 0), (7, .p (σ.length + 1) 0), (8, .sl (p 0) 0 k (c 0)), (9, .sl (p 1) 0 L.length (c 1)), (10, .i .i64 k)], H2⟩ ∧
      F5 σ { q4 L k with lf := (L.take (k + 1)).map Job.E } H2 (up p 0 (H.length + 1)) (up c 0 cap)) ?_ ?_
    · have f1 : ∀ one : AB, (H ++ [one])[p 0]? = some (.rw ty_int (encInt.row ((L.take k).map Job.E)) (c 0 * 1)) := fun one => at_old hlo _
      simp only [onC_of (hcc hjc hF), w1.2, f1, at_new0, hl0, not_true_eq_false, not_false_eq_true, decide_true, decide_false, Bool.not_true, Bool.not_false, false_implies, true_implies, and_true, true_and, Bool.false_eq_true, Bool.true_eq_false, implies_true, Bool.not_not, Classical.not_not, go_sem, Int.reduceToNat, List.take_nil, Nat.zero_mul, Nat.reduceEqDiff, Nat.reduceAdd, Nat.reduceLT, Nat.reduceLeDiff, Nat.reduceMul, ↓reduceIte, reduceCtorEq]
      refine ⟨hkl, by simpa [encJob] using w1.1, by omega, fun cap hcap => ⟨_, _, _, _, _, _, _, _, cap, _, rfl, ?_⟩⟩
      have := hF.app_lf ((L.take (k + 1)).map Job.E) cap (.rw ty_int [.i .i64 L[k].E] 1)
      rw [Nat.mul_one] at this
      have e3 : (encInt.row ((L.take k).map Job.E)).take k = encInt.row ((L.take k).map Job.E) := List.take_of_length_le (by rw [hl0]; omega)
      rw [e3, appI]
      rw [List.take_succ_eq_append_getElem hkl, List.map_append] at this ⊢
      exact this
    · rintro _ ⟨b1, b2, b3, b4, b5, b6, b7, b8, cap, H2, rfl, hF2⟩
      have e1 : (L.take k).length = k := by simp; omega
      have hp1 : up p 0 (H.length + 1) 1 = p 1 := rfl
      have hc1 : up c 0 cap 1 = c 1 := rfl
      have hp0 : up p 0 (H.length + 1) 0 = H.length + 1 := rfl
      have hc0 : up c 0 cap 0 = cap := rfl
      rw [← hp1, ← hc1]
      have e0 : (AV.sl (H.length + 1) 0 (k + 1) cap) = .sl (up p 0 (H.length + 1) 0) 0 (k + 1) (up c 0 cap 0) := rfl
      rw [e0]
      clear hp1 hc1 hp0 hc0 e0 hlo hge0 hlt0 hlen hout
      generalize up p 0 (H.length + 1) = p2 at *
      generalize up c 0 cap = c2 at *
      have hlen := hF2.len
      have hout : H2[σ.length + 1]? = some (.rw ty_impl_ServerRun [.sn, vI p2 c2 4 k, .sn, .sn] 4) := by
        rw [hF2.out]; simp [outC, q4, vI]
      have hnn : List.replicate (k + 1) (-1 : Int) ≠ [] := by simp
      have hq : ∀ k, q4 L (k + 1) = { ({ q4 L k with lf := (L.take (k + 1)).map Job.E } : Q5) with fin := List.replicate (k + 1) (-1) } := fun k => rfl
      rcases Nat.eq_zero_or_pos k with h0 | h0
      · have hv3 : vI p2 c2 4 k = .sn := if_pos h0
        rw [hv3] at hout
        have f2 : ∀ one new, (H2 ++ [one] ++ [new])[σ.length + 1]? = some (.rw ty_impl_ServerRun [.sn, .sn, .sn, .sn] 4) := fun one new => by
          rw [List.getElem?_append_left (by simp only [List.length_append]; omega), List.getElem?_append_left (by omega)]; exact hout
        simp only [hout, at_new0, f2, not_true_eq_false, not_false_eq_true, decide_true, decide_false, Bool.not_true, Bool.not_false, false_implies, true_implies, and_true, true_and, Bool.false_eq_true, Bool.true_eq_false, implies_true, Bool.not_not, Classical.not_not, go_sem, Int.reduceToNat, List.take_nil, Nat.zero_mul, Nat.reduceEqDiff, Nat.reduceAdd, Nat.reduceLT, Nat.reduceLeDiff, Nat.reduceMul, ↓reduceIte, reduceCtorEq]
        intro cap hcap
        have := hF2.app_fin0 (l := List.replicate (k + 1) (-1)) hnn (by subst h0; rfl) cap (.rw ty_int [.i .i64 (-1)] 1) (cs := [.sn, .sl (H2.length + 1) 0 1 cap, .sn, .sn]) (by subst h0; rfl)
        rw [Nat.mul_one, show encInt.row (List.replicate (k + 1) (-1)) = [.i .i64 (-1)] by subst h0; rfl] at this
        exact ⟨by omega, (_, up p2 4 (H2.length + 1), up c2 4 cap, k + 1), ⟨⟨by rw [hq]; exact this, by simp only; omega⟩, by simp only; omega⟩, Wk.keep (by simp [look_cons, up])⟩
      · have hv3 : vI p2 c2 4 k = .sl (p2 4) 0 k (c2 4) := if_neg (by omega)
        rw [hv3] at hout
        have hne : List.replicate k (-1 : Int) ≠ [] := by
          intro h
          have := congrArg List.length h
          simp at this; omega
        have h5 : BB { q4 L k with lf := (L.take (k + 1)).map Job.E } p2 c2 4 = some (.rw ty_int (encInt.row (List.replicate k (-1))) (c2 4 * 1)) := if_neg hne
        have f1 : ∀ one : AB, (H2 ++ [one])[p2 4]? = some (.rw ty_int (encInt.row (List.replicate k (-1))) (c2 4 * 1)) := fun one => at_old (hF2.lay.at h5) _
        have hlt5 := hF2.lay.lt h5
        have hge5 := hF2.lay.ge h5
        have f2 : ∀ one new : AB, ((H2 ++ [one]).set (p2 4) .dead ++ [new])[σ.length + 1]? = some (.rw ty_impl_ServerRun [.sn, .sl (p2 4) 0 k (c2 4), .sn, .sn] 4) := fun one new => by
          rw [List.getElem?_append_left (by simp only [List.length_set, List.length_append]; omega), List.getElem?_set_ne (by omega), List.getElem?_append_left (by omega)]; exact hout
        have hlc : (encInt.row (List.replicate k (-1))).length = k := by rw [lenI]; simp
        simp only [hout, at_new0, f1, f2, hlc, not_true_eq_false, not_false_eq_true, decide_true, decide_false, Bool.not_true, Bool.not_false, false_implies, true_implies, and_true, true_and, Bool.false_eq_true, Bool.true_eq_false, implies_true, Bool.not_not, Classical.not_not, go_sem, Int.reduceToNat, List.take_nil, Nat.zero_mul, Nat.reduceEqDiff, Nat.reduceAdd, Nat.reduceLT, Nat.reduceLeDiff, Nat.reduceMul, ↓reduceIte, reduceCtorEq]
        refine ⟨by omega, fun cap hcap => ?_⟩
        have := hF2.app_fin1 (l := List.replicate (k + 1) (-1)) hnn hne cap (.rw ty_int [.i .i64 (-1)] 1) (cs := [.sn, .sl (H2.length + 1) 0 (k + 1) cap, .sn, .sn]) (by
          simp only [outC, q4, vI, up, List.length_replicate]; simp)
        have e3 : (encInt.row (List.replicate k (-1))).take k = encInt.row (List.replicate k (-1)) := List.take_of_length_le (by rw [hlc]; omega)
        have e4 : List.replicate (k + 1) (-1 : Int) = List.replicate k (-1) ++ [-1] := List.replicate_succ'
        rw [Nat.mul_one, e4, ← appI] at this
        rw [e3]
        exact ⟨by omega, (_, up p2 4 (H2.length + 1), up c2 4 cap, k + 1), ⟨⟨by rw [hq, e4]; exact this, by simp only; omega⟩, by simp only; omega⟩, Wk.keep (by simp [look_cons, up])⟩
end Go.Proofs.Ytnlciginmeebhaa
/- Contracts: RunServers of the reference; what two runs with servers are compared by. -/
namespace Go.Proofs.Ytnlciginmeebhaa
open Go.Abs Go.Ds
set_option linter.unusedSimpArgs false
set_option linter.unusedVariables false
set_option maxRecDepth 20000
set_option maxHeartbeats 2000000
theorem spec_RunServers_ {σ : List AB} {S : List Task} {X : List Srv} {AA : List (List Arr)} {L : List Job} {v : AV} {jn jo jc xn xo xc an ao ac : Nat} {K : AV → List AB → Prop} (hs : S.length ≤ 1000000) (hl : L.length ≤ 1000) (hx : X.length ≤ 1000) (ha : AA.length ≤ 1000) (haa : ∀ A ∈ AA, A.length ≤ 1000)
    (hS : Rd encTask σ v S) (hv : Rd encJob σ (.sl jn jo L.length jc) L) (hX : Rd encSrv σ (.sl xn xo X.length xc) X) (hA : RdA σ (.sl an ao AA.length ac) AA)
    (hn : ¬ srvRunOk S L X AA → ∀ τ, K (.agg [.sn, .sn, .sn, .sn]) (σ ++ τ))
    (hy : srvRunOk S L X AA → ∀ τ x, SrvAns (σ ++ τ) x (srvRun X AA L) (srvFin X AA L) (srvCh X AA L) (srvSd X AA L) → K x (σ ++ τ)) :
    CallWp Try.prog n_spec_RunServers [v, .sl jn jo L.length jc, .sl xn xo X.length xc, .sl an ao AA.length ac] σ K := by
  obtain ⟨acs, hac, hal, har⟩ : ∃ acs : List AV, cellsOf σ an = some acs ∧ ao + AA.length ≤ acs.length ∧ ∀ k (h : k < AA.length), Rd encArr σ (rd acs (ao + k)) AA[k] := by
    rcases hA with ⟨n, o, cap, cs, e, h⟩ | ⟨e, _⟩
    · cases e; exact ⟨cs, h⟩
    · cases e
  refine call_spec_RunServers (by simp) ?_
  simp only [c_spec_RunServers, hS.data, not_true_eq_false, not_false_eq_true, decide_true, decide_false, Bool.not_true, Bool.not_false, false_implies, true_implies, and_true, true_and, Bool.false_eq_true, Bool.true_eq_false, implies_true, Bool.not_not, Classical.not_not, go_sem, Int.reduceToNat, List.take_nil, Nat.zero_mul, Nat.reduceEqDiff, Nat.reduceAdd, Nat.reduceLT, Nat.reduceLeDiff, Nat.reduceMul, ↓reduceIte, reduceCtorEq]
  refine spec_JobsLegal_ (S := S) (L := L) (by omega) (by omega) hS.app hv.app ?_
  simp only [not_true_eq_false, not_false_eq_true, decide_true, decide_false, Bool.not_true, Bool.not_false, false_implies, true_implies, and_true, true_and, Bool.false_eq_true, Bool.true_eq_false, implies_true, Bool.not_not, Classical.not_not, go_sem, Int.reduceToNat, List.take_nil, Nat.zero_mul, Nat.reduceEqDiff, Nat.reduceAdd, Nat.reduceLT, Nat.reduceLeDiff, Nat.reduceMul, ↓reduceIte, reduceCtorEq]
  have no : ¬ srvRunOk S L X AA → ∀ τ, Fin σ.length (σ ++ τ) (.agg [.sn, .sn, .sn, .sn]) K := fun h τ => Fin.plain (hn h τ)
  have stN : ∀ {h : ¬ srvRunOk S L X AA}, onW (σ ++ [AB.rw ty_impl_ServerRun [AV.sn, AV.sn, AV.sn, AV.sn] 4])[σ.length]? fun ty cs r => 4 ≤ cs.length ∧ onC ((σ ++ [AB.rw ty_impl_ServerRun [AV.sn, AV.sn, AV.sn, AV.sn] 4]).set σ.length (AB.rw ty (spl cs 0 [AV.sn, AV.sn, AV.sn, AV.sn]) r))[σ.length]? fun cs_1 => 4 ≤ cs_1.length ∧
      Abs.Fin σ.length ((σ ++ [AB.rw ty_impl_ServerRun [AV.sn, AV.sn, AV.sn, AV.sn] 4]).set σ.length (AB.rw ty (spl cs 0 [AV.sn, AV.sn, AV.sn, AV.sn]) r)) (AV.agg (win cs_1 0 4)) K := fun {h} => by
    simp only [at_new0, set_new0, not_true_eq_false, not_false_eq_true, decide_true, decide_false, Bool.not_true, Bool.not_false, false_implies, true_implies, and_true, true_and, Bool.false_eq_true, Bool.true_eq_false, implies_true, Bool.not_not, Classical.not_not, go_sem, Int.reduceToNat, List.take_nil, Nat.zero_mul, Nat.reduceEqDiff, Nat.reduceAdd, Nat.reduceLT, Nat.reduceLeDiff, Nat.reduceMul, ↓reduceIte, reduceCtorEq]
    exact no h _
  refine ⟨fun h1 => ?_, fun h1 => stN (h := fun h => h1 h.1)⟩
  refine spec_ServersValid_ (by omega) hX.app ?_
  simp only [not_true_eq_false, not_false_eq_true, decide_true, decide_false, Bool.not_true, Bool.not_false, false_implies, true_implies, and_true, true_and, Bool.false_eq_true, Bool.true_eq_false, implies_true, Bool.not_not, Classical.not_not, go_sem, Int.reduceToNat, List.take_nil, Nat.zero_mul, Nat.reduceEqDiff, Nat.reduceAdd, Nat.reduceLT, Nat.reduceLeDiff, Nat.reduceMul, ↓reduceIte, reduceCtorEq]
  refine ⟨fun h2 => ⟨fun h3 => stN (h := fun h => h3 (by rw [h.2.2.1])), fun h3 => ?_⟩, fun h2 => stN (h := fun h => h2 h.2.1)⟩
  refine loop_count AA.length (fun k => ⟨[(1, .sl jn jo L.length jc), (2, .sl xn xo X.length xc), (3, .sl an ao AA.length ac), (8, .p σ.length 0), (9, .i .i64 k)], σ ++ [.rw ty_impl_ServerRun [.sn, .sn, .sn, .sn] 4]⟩) (fun k => ∀ A ∈ AA.take k, arrLegal A) (by simp) (Wk.keep (by simp [look_cons])) fun k hkl hJ => ?_
  simp only [l0_spec_RunServers, not_true_eq_false, not_false_eq_true, decide_true, decide_false, Bool.not_true, Bool.not_false, false_implies, true_implies, and_true, true_and, Bool.false_eq_true, Bool.true_eq_false, implies_true, Bool.not_not, Classical.not_not, go_sem, Int.reduceToNat, List.take_nil, Nat.zero_mul, Nat.reduceEqDiff, Nat.reduceAdd, Nat.reduceLT, Nat.reduceLeDiff, Nat.reduceMul, ↓reduceIte, reduceCtorEq]
  refine ⟨fun hk => ?_, fun hk => ?_⟩
  · have r1 := har k hk
    have r2 : Rd encArr (σ ++ [AB.rw ty_impl_ServerRun [.sn, .sn, .sn, .sn] 4]) (rd acs (ao + k)) AA[k] := r1.app
    simp only [onC_of (cells_old hac _), r1.data, not_true_eq_false, not_false_eq_true, decide_true, decide_false, Bool.not_true, Bool.not_false, false_implies, true_implies, and_true, true_and, Bool.false_eq_true, Bool.true_eq_false, implies_true, Bool.not_not, Classical.not_not, go_sem, Int.reduceToNat, List.take_nil, Nat.zero_mul, Nat.reduceEqDiff, Nat.reduceAdd, Nat.reduceLT, Nat.reduceLeDiff, Nat.reduceMul, ↓reduceIte, reduceCtorEq]
    refine ⟨hk, by omega, spec_ArrivalsLegal_ (by have := haa _ (List.getElem_mem hk); omega) r2 ?_⟩
    simp only [not_true_eq_false, not_false_eq_true, decide_true, decide_false, Bool.not_true, Bool.not_false, false_implies, true_implies, and_true, true_and, Bool.false_eq_true, Bool.true_eq_false, implies_true, Bool.not_not, Classical.not_not, go_sem, Int.reduceToNat, List.take_nil, Nat.zero_mul, Nat.reduceEqDiff, Nat.reduceAdd, Nat.reduceLT, Nat.reduceLeDiff, Nat.reduceMul, ↓reduceIte, reduceCtorEq]
    refine ⟨fun h4 => stN (h := fun h => h4 (h.2.2.2 _ (List.getElem_mem hk))), fun h4 => ⟨by omega, ⟨hk, (all_take_succ hk).2 ⟨hJ, h4⟩⟩, Wk.keep (by simp [look_cons])⟩⟩
  · have e : k = AA.length := by omega
    subst e
    rw [List.take_length] at hJ
    have hok : srvRunOk S L X AA := ⟨h1, h2, by omega, hJ⟩
    refine spec_l5Run_ hok hv.app hX.app hA.app fun τ x hx => ?_
    obtain ⟨v1, v2, v3, v4, rfl, r1, r2, r3, r4⟩ := hx.plain
    have hx2 := hx.set (n := σ.length) (by simp) (.rw ty_impl_ServerRun [v1, v2, v3, v4] 4)
    simp only [List.append_assoc, List.cons_append, List.nil_append, at_new0, set_new0, r1.data, r2.data, r3.data, r4.data, not_true_eq_false, not_false_eq_true, decide_true, decide_false, Bool.not_true, Bool.not_false, false_implies, true_implies, and_true, true_and, Bool.false_eq_true, Bool.true_eq_false, implies_true, Bool.not_not, Classical.not_not, go_sem, Int.reduceToNat, List.take_nil, Nat.zero_mul, Nat.reduceEqDiff, Nat.reduceAdd, Nat.reduceLT, Nat.reduceLeDiff, Nat.reduceMul, ↓reduceIte, reduceCtorEq] at hx2 ⊢
    exact Fin.plain (hy hok _ _ hx2)
end Go.Proofs.Ytnlciginmeebhaa
/- Contracts: two runs with servers compared. -/
namespace Go.Proofs.Ytnlciginmeebhaa
open Go.Abs Go.Ds
set_option linter.unusedSimpArgs false
set_option linter.unusedVariables false
set_option maxRecDepth 20000
set_option maxHeartbeats 2000000
theorem SrvAns.none {σ : List AB} (h : 0 < σ.length) : SrvAns σ (.agg [.sn, .sn, .sn, .sn]) [] [] [] [] := ⟨_, _, _, _, rfl, .inr ⟨rfl, rfl, h⟩, .inr ⟨rfl, rfl, h⟩, .inr ⟨rfl, rfl, h⟩, .inr ⟨rfl, rfl, h⟩⟩
theorem RdL.len {σ : List AB} {v : AV} {R : List (List Int)} (h : RdL σ v R) (F : Nat → Prop) : onSl v (fun _ _ n _ => F n) (F 0) = F R.length := by
  rcases h with ⟨n, o, cap, cs, rfl, _⟩ | ⟨rfl, rfl, _⟩ <;> rfl
theorem laws_sameRun_ {σ : List AB} {x y : AV} {run fin ch : List Int} {sd : List (List Int)} {K : AV → List AB → Prop} (hx : SrvAns σ x run fin ch sd) (hy : SrvAns σ y run fin ch sd) (l1 : run.length ≤ 1000000) (l2 : fin.length ≤ 1000000) (l3 : ch.length ≤ 1000000) (l4 : sd.length ≤ 1000000) (l5 : ∀ r ∈ sd, r.length ≤ 1000000)
    (hk : ∀ τ, K (.b true) (σ ++ τ)) : CallWp Try.prog n_laws_sameRun [x, y] σ K := by
  obtain ⟨v1, v2, v3, v4, rfl, a1, a2, a3, a4⟩ := hx
  obtain ⟨w1, w2, w3, w4, rfl, b1, b2, b3, b4⟩ := hy
  refine callC_laws_sameRun (by simp) fun hC hA => ?_
  simp only [c_laws_sameRun, List.append_assoc, List.cons_append, List.nil_append, at_new, at_new0, a1.data, a2.data, a3.data, a4.data, b1.data, b2.data, b3.data, b4.data, not_true_eq_false, not_false_eq_true, decide_true, decide_false, Bool.not_true, Bool.not_false, false_implies, true_implies, and_true, true_and, Bool.false_eq_true, Bool.true_eq_false, implies_true, Bool.not_not, Classical.not_not, go_sem, Int.reduceToNat, List.take_nil, Nat.zero_mul, Nat.reduceEqDiff, Nat.reduceAdd, Nat.reduceLT, Nat.reduceLeDiff, Nat.reduceMul, ↓reduceIte, reduceCtorEq]
  refine laws_sameSchedule_ (a1.app) (a2.app) (b1.app) (b2.app) l1 l2 ?_
  simp only [at_new, at_new0, a3.data, b3.data, not_true_eq_false, not_false_eq_true, decide_true, decide_false, Bool.not_true, Bool.not_false, false_implies, true_implies, and_true, true_and, Bool.false_eq_true, Bool.true_eq_false, implies_true, Bool.not_not, Classical.not_not, go_sem, Int.reduceToNat, List.take_nil, Nat.zero_mul, Nat.reduceEqDiff, Nat.reduceAdd, Nat.reduceLT, Nat.reduceLeDiff, Nat.reduceMul, ↓reduceIte, reduceCtorEq]
  refine laws_sameInts_ (by omega) a3.app b3.app ?_
  simp only [at_new, at_new0, a4.data, b4.data, not_true_eq_false, not_false_eq_true, decide_true, decide_false, Bool.not_true, Bool.not_false, false_implies, true_implies, and_true, true_and, Bool.false_eq_true, Bool.true_eq_false, implies_true, Bool.not_not, Classical.not_not, go_sem, Int.reduceToNat, List.take_nil, Nat.zero_mul, Nat.reduceEqDiff, Nat.reduceAdd, Nat.reduceLT, Nat.reduceLeDiff, Nat.reduceMul, ↓reduceIte, reduceCtorEq]
  rcases a4 with ⟨n4, o4, c4, cs4, rfl, hc4, hl4, hr4⟩ | ⟨rfl, hsd, h0⟩
  · rcases b4 with ⟨m4, p4, d4, ds4, rfl, hd4, hm4, hs4⟩ | ⟨rfl, hsd, h0⟩
    · simp only [not_true_eq_false, not_false_eq_true, decide_true, decide_false, Bool.not_true, Bool.not_false, false_implies, true_implies, and_true, true_and, Bool.false_eq_true, Bool.true_eq_false, implies_true, Bool.not_not, Classical.not_not, go_sem, Int.reduceToNat, List.take_nil, Nat.zero_mul, Nat.reduceEqDiff, Nat.reduceAdd, Nat.reduceLT, Nat.reduceLeDiff, Nat.reduceMul, ↓reduceIte, reduceCtorEq]
      try refine ⟨fun h => absurd rfl h, fun _ => ?_⟩
      refine loop_count sd.length (fun k => ⟨[(2, .p σ.length 0), (3, .p (σ.length + 1) 0), (5, .i .i64 k)], σ ++ [.rw ty_impl_ServerRun [v1, v2, v3, .sl n4 o4 sd.length c4] 4, .rw ty_impl_ServerRun [w1, w2, w3, .sl m4 p4 sd.length d4] 4]⟩) (fun _ => True) trivial (Wk.keep (by simp [look_cons])) fun k hkl _ => ?_
      simp only [l0_laws_sameRun, at_new, at_new0, not_true_eq_false, not_false_eq_true, decide_true, decide_false, Bool.not_true, Bool.not_false, false_implies, true_implies, and_true, true_and, Bool.false_eq_true, Bool.true_eq_false, implies_true, Bool.not_not, Classical.not_not, go_sem, Int.reduceToNat, List.take_nil, Nat.zero_mul, Nat.reduceEqDiff, Nat.reduceAdd, Nat.reduceLT, Nat.reduceLeDiff, Nat.reduceMul, ↓reduceIte, reduceCtorEq]
      refine ⟨fun hk1 => ?_, fun hk1 => Fin.plain (hk _)⟩
      have r1 := hr4 k hk1
      have r2 := hs4 k hk1
      simp only [onC_of (cells_old hc4 _), onC_of (cells_old hd4 _), r1.data, r2.data, not_true_eq_false, not_false_eq_true, decide_true, decide_false, Bool.not_true, Bool.not_false, false_implies, true_implies, and_true, true_and, Bool.false_eq_true, Bool.true_eq_false, implies_true, Bool.not_not, Classical.not_not, go_sem, Int.reduceToNat, List.take_nil, Nat.zero_mul, Nat.reduceEqDiff, Nat.reduceAdd, Nat.reduceLT, Nat.reduceLeDiff, Nat.reduceMul, ↓reduceIte, reduceCtorEq]
      refine ⟨hk1, by omega, hk1, by omega, ?_⟩
      refine onCall.by (laws_sameInts_ (by have := l5 _ (List.getElem_mem hk1); omega) r1.app r2.app ⟨rfl, rfl⟩) ?_
      simp only [not_true_eq_false, not_false_eq_true, decide_true, decide_false, Bool.not_true, Bool.not_false, false_implies, true_implies, and_true, true_and, Bool.false_eq_true, Bool.true_eq_false, implies_true, Bool.not_not, Classical.not_not, go_sem, Int.reduceToNat, List.take_nil, Nat.zero_mul, Nat.reduceEqDiff, Nat.reduceAdd, Nat.reduceLT, Nat.reduceLeDiff, Nat.reduceMul, ↓reduceIte, reduceCtorEq]
      exact ⟨by omega, hk1, Wk.keep (by simp [look_cons])⟩
    · subst hsd
      simp only [List.length_nil, not_true_eq_false, not_false_eq_true, decide_true, decide_false, Bool.not_true, Bool.not_false, false_implies, true_implies, and_true, true_and, Bool.false_eq_true, Bool.true_eq_false, implies_true, Bool.not_not, Classical.not_not, go_sem, Int.reduceToNat, List.take_nil, Nat.zero_mul, Nat.reduceEqDiff, Nat.reduceAdd, Nat.reduceLT, Nat.reduceLeDiff, Nat.reduceMul, ↓reduceIte, reduceCtorEq]
      try refine ⟨fun h => absurd rfl h, fun _ => ?_⟩
      refine loop_count 0 (fun k => ⟨[(2, .p σ.length 0), (3, .p (σ.length + 1) 0), (5, .i .i64 k)], σ ++ [.rw ty_impl_ServerRun [v1, v2, v3, .sl n4 o4 0 c4] 4, .rw ty_impl_ServerRun [w1, w2, w3, .sn] 4]⟩) (fun k => k = 0) rfl (Wk.keep (by simp [look_cons])) fun k hkl hJ => ?_
      subst hJ
      simp only [l0_laws_sameRun, at_new, at_new0, not_true_eq_false, not_false_eq_true, decide_true, decide_false, Bool.not_true, Bool.not_false, false_implies, true_implies, and_true, true_and, Bool.false_eq_true, Bool.true_eq_false, implies_true, Bool.not_not, Classical.not_not, go_sem, Int.reduceToNat, List.take_nil, Nat.zero_mul, Nat.reduceEqDiff, Nat.reduceAdd, Nat.reduceLT, Nat.reduceLeDiff, Nat.reduceMul, ↓reduceIte, reduceCtorEq]
      first | exact Fin.plain (hk _) | exact ⟨fun h => absurd h (by omega), fun _ => Fin.plain (hk _)⟩
  · subst hsd
    rcases b4 with ⟨m4, p4, d4, ds4, rfl, hd4, hm4, hs4⟩ | ⟨rfl, hsd, h0⟩
    · simp only [List.length_nil, not_true_eq_false, not_false_eq_true, decide_true, decide_false, Bool.not_true, Bool.not_false, false_implies, true_implies, and_true, true_and, Bool.false_eq_true, Bool.true_eq_false, implies_true, Bool.not_not, Classical.not_not, go_sem, Int.reduceToNat, List.take_nil, Nat.zero_mul, Nat.reduceEqDiff, Nat.reduceAdd, Nat.reduceLT, Nat.reduceLeDiff, Nat.reduceMul, ↓reduceIte, reduceCtorEq]
      try refine ⟨fun h => absurd rfl h, fun _ => ?_⟩
      refine loop_count 0 (fun k => ⟨[(2, .p σ.length 0), (3, .p (σ.length + 1) 0), (5, .i .i64 k)], σ ++ [.rw ty_impl_ServerRun [v1, v2, v3, .sn] 4, .rw ty_impl_ServerRun [w1, w2, w3, .sl m4 p4 0 d4] 4]⟩) (fun k => k = 0) rfl (Wk.keep (by simp [look_cons])) fun k hkl hJ => ?_
      subst hJ
      simp only [l0_laws_sameRun, at_new, at_new0, not_true_eq_false, not_false_eq_true, decide_true, decide_false, Bool.not_true, Bool.not_false, false_implies, true_implies, and_true, true_and, Bool.false_eq_true, Bool.true_eq_false, implies_true, Bool.not_not, Classical.not_not, go_sem, Int.reduceToNat, List.take_nil, Nat.zero_mul, Nat.reduceEqDiff, Nat.reduceAdd, Nat.reduceLT, Nat.reduceLeDiff, Nat.reduceMul, ↓reduceIte, reduceCtorEq]
      first | exact Fin.plain (hk _) | exact ⟨fun h => absurd h (by omega), fun _ => Fin.plain (hk _)⟩
    · simp only [not_true_eq_false, not_false_eq_true, decide_true, decide_false, Bool.not_true, Bool.not_false, false_implies, true_implies, and_true, true_and, Bool.false_eq_true, Bool.true_eq_false, implies_true, Bool.not_not, Classical.not_not, go_sem, Int.reduceToNat, List.take_nil, Nat.zero_mul, Nat.reduceEqDiff, Nat.reduceAdd, Nat.reduceLT, Nat.reduceLeDiff, Nat.reduceMul, ↓reduceIte, reduceCtorEq]
      try refine ⟨fun h => absurd rfl h, fun _ => ?_⟩
      refine loop_count 0 (fun k => ⟨[(2, .p σ.length 0), (3, .p (σ.length + 1) 0), (5, .i .i64 k)], σ ++ [.rw ty_impl_ServerRun [v1, v2, v3, .sn] 4, .rw ty_impl_ServerRun [w1, w2, w3, .sn] 4]⟩) (fun k => k = 0) rfl (Wk.keep (by simp [look_cons])) fun k hkl hJ => ?_
      subst hJ
      simp only [l0_laws_sameRun, at_new, at_new0, not_true_eq_false, not_false_eq_true, decide_true, decide_false, Bool.not_true, Bool.not_false, false_implies, true_implies, and_true, true_and, Bool.false_eq_true, Bool.true_eq_false, implies_true, Bool.not_not, Classical.not_not, go_sem, Int.reduceToNat, List.take_nil, Nat.zero_mul, Nat.reduceEqDiff, Nat.reduceAdd, Nat.reduceLT, Nat.reduceLeDiff, Nat.reduceMul, ↓reduceIte, reduceCtorEq]
      first | exact Fin.plain (hk _) | exact ⟨fun h => absurd h (by omega), fun _ => Fin.plain (hk _)⟩
end Go.Proofs.Ytnlciginmeebhaa
