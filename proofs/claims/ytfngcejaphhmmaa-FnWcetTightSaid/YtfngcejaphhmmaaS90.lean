import Derived.Test.YtfngcejaphhmmaaS89
import Derived.Test.YtfngcejaphhmmaaS14
namespace Go.Proofs.Ytfngcejaphhmmaa
open Go.Abs Go.Ds
set_option linter.unusedSimpArgs false
set_option linter.unusedVariables false
set_option maxRecDepth 20000
set_option maxHeartbeats 2000000
/-- The choices that have been told so far. -/
structure WstH (P : List Nd) (c q : Nat) (pre : List Int) (σ : List AB) (p : Nat) : Prop where
  prog : cellsOf σ 0 = some (encNd.row P)
  var : cellsOf σ 1 = some [.sl 0 0 P.length c]
  row : cellsOf σ 2 = some (encInt.row (costs true P P.length))
  times : cellsOf σ 3 = some [.sl 2 0 P.length q]
  out : (pre = [] ∧ p = 4 ∧ σ[4]? = some (.rw ty_sl_int [.sn] 1)) ∨ (pre ≠ [] ∧ 5 ≤ p ∧ ∃ cp, σ[4]? = some (.rw ty_sl_int [.sl p 0 pre.length cp] 1) ∧ σ[p]? = some (.rw ty_int (encInt.row pre) cp))
theorem WstH.four {P : List Nd} {c q : Nat} {pre : List Int} {σ : List AB} {p : Nat} (g : WstH P c q pre σ p) : 4 < σ.length ∧ p < σ.length := by
  rcases g.out with ⟨_, h1, h2⟩ | ⟨_, h1, cp, h2, h3⟩
  · have := (List.getElem?_eq_some_iff.1 h2).1
    omega
  · exact ⟨(List.getElem?_eq_some_iff.1 h2).1, (List.getElem?_eq_some_iff.1 h3).1⟩
theorem WstH.app {P : List Nd} {c q : Nat} {pre : List Int} {σ : List AB} {p : Nat} (g : WstH P c q pre σ p) (τ : List AB) : WstH P c q pre (σ ++ τ) p :=
  ⟨cells_old g.prog τ, cells_old g.var τ, cells_old g.row τ, cells_old g.times τ, g.out.elim (fun h => .inl ⟨h.1, h.2.1, at_old h.2.2 τ⟩) (fun h => .inr ⟨h.1, h.2.1, h.2.2.elim fun cp h => ⟨cp, at_old h.1 τ, at_old h.2 τ⟩⟩)⟩
theorem WstH.next {P : List Nd} {c q : Nat} {pre : List Int} {σ H : List AB} {p p' : Nat} {x : Int} {cp : Nat} (g : WstH P c q pre σ p) (h0 : σ.length ≤ H.length) (h1 : ∀ i, i < σ.length → i ≠ 4 → i ≠ p → H[i]? = σ[i]?) (h2 : H[4]? = some (.rw ty_sl_int [.sl p' 0 (pre.length + 1) cp] 1)) (h3 : H[p']? = some (.rw ty_int (encInt.row (pre ++ [x])) cp)) (h4 : 5 ≤ p') : WstH P c q (pre ++ [x]) H p' := by
  obtain ⟨g4, gp⟩ := g.four
  have hp : 4 ≤ p := by rcases g.out with ⟨_, h1, h2⟩ | ⟨_, h1, _⟩ <;> omega
  have k : ∀ {i : Nat} {cs : List AV}, i < 4 → cellsOf σ i = some cs → cellsOf H i = some cs := fun {i cs} hi h => by
    unfold cellsOf at h ⊢
    rw [h1 i (by omega) (by omega) (by omega)]; exact h
  exact ⟨k (by omega) g.prog, k (by omega) g.var, k (by omega) g.row, k (by omega) g.times, .inr ⟨by simp, h4, cp, by rw [List.length_append, List.length_singleton]; exact h2, h3⟩⟩
theorem rdW {P : List Nd} {a : Int} (h0 : 0 ≤ a) (h1 : a.toNat < P.length) : rd (encInt.row (costs true P P.length)) a.toNat = .i .i64 (cstA true P a.toNat) := by
  have hl := costs_len true P P.length
  rw [rdI (show a.toNat < (costs true P P.length).length by omega), ← costs_at true P h1]
  simp [gI, List.getD_eq_getElem?_getD, show a.toNat < (costs true P P.length).length by omega, show (max a 0).toNat = a.toNat by omega]
theorem wst_chooser {P : List Nd} {W : List Int} {c q : Nat} (h : nodesOk P) (hw : W.length ≤ 1000) : Chooser n_impl_WorstChoices_1 [] [(1, 0), (3, 0), (4, 0)] P W 4 (WstH P c q) where
  prog := fun pre σ p g => g.prog
  lt := fun pre σ p g => by
    have := g.four
    rcases g.out with ⟨_, h1, h2⟩ | ⟨_, h1, _⟩ <;> omega
  app := fun pre σ p τ g => g.app τ
  go := fun pre σ p k many K g hk hm hW hK => by
    have ho := h k hk
    have kd := kid ho
    obtain ⟨g4, gp⟩ := g.four
    have hn : pre.length < W.length := by
      have := hW.length_le
      rw [List.length_append, List.length_singleton] at this; omega
    refine call_impl_WorstChoices_1 (by simp [pAV]) ?_
    simp only [c_impl_WorstChoices_1, pAV, List.map_nil, List.map_cons, List.nil_append, List.cons_append, List.append_nil, onC_of g.var, onC_of g.prog, winN hk, encN, lenN, List.append_assoc, at_new, at_new0, set_new, set_new0, not_true_eq_false, not_false_eq_true, decide_true, decide_false, Bool.not_true, Bool.not_false, false_implies, true_implies, and_true, true_and, Bool.false_eq_true, Bool.true_eq_false, implies_true, Bool.not_not, Classical.not_not, go_sem, Int.reduceToNat, List.take_nil, Nat.zero_mul, Nat.reduceEqDiff, Nat.reduceAdd, Nat.reduceLT, Nat.reduceLeDiff, Nat.reduceMul, ↓reduceIte, reduceCtorEq]
    have hmb : 1 ≤ many ∧ many ≤ 5 := by unfold ndOk at ho; omega
    refine ⟨by omega, by omega, by omega, ?_⟩
    have e3 := g.times
    have e2 := g.row
    refine seq_join (fun _ : Unit => ⟨[(9, .i .i64 (wc P k)), (4, .p 4 0)], σ ++ [AB.rw ty_impl_Node [.i .i64 (gN P k).K, .i .i64 (gN P k).C, .i .i64 (gN P k).A, .i .i64 (gN P k).B, .i .i64 (gN P k).Bd] 5]⟩) (fun _ => True) ?_ fun _ _ => ?_
    · rcases hm with ⟨m1, m2⟩ | ⟨m1, m2⟩
      · obtain ⟨a1, b1⟩ := kd.2.1 m1
        have hl := costs_len true P P.length
        unfold ndOk at ho
        have wt := wc_time h hk m1
        simp only [m1, m2, onC_old e3, onC_old e2, rdW (show 0 ≤ (gN P k).A by omega) (show (gN P k).A.toNat < P.length by omega), rdW (show 0 ≤ (gN P k).B by omega) (show (gN P k).B.toNat < P.length by omega), lenI, hl, Int.reduceEq, List.append_assoc, at_new, at_new0, set_new, set_new0, not_true_eq_false, not_false_eq_true, decide_true, decide_false, Bool.not_true, Bool.not_false, false_implies, true_implies, and_true, true_and, Bool.false_eq_true, Bool.true_eq_false, implies_true, Bool.not_not, Classical.not_not, go_sem, Int.reduceToNat, List.take_nil, Nat.zero_mul, Nat.reduceEqDiff, Nat.reduceAdd, Nat.reduceLT, Nat.reduceLeDiff, Nat.reduceMul, ↓reduceIte, reduceCtorEq]
        refine ⟨by omega, by omega, by omega, by omega, fun g0 => kJ_intro () trivial (Wk.keep ?_), fun g0 => kJ_intro () trivial (Wk.keep ?_)⟩
        · have w0 : wc P k = 0 := by omega
          simp [look_cons, w0]
        · have w0 : wc P k = 1 := by omega
          simp [look_cons, w0]
      · have wb : wc P k = (gN P k).Bd := by rw [wc, if_neg (by omega)]
        simp only [m1, m2, Int.reduceEq, List.append_assoc, at_new, at_new0, set_new, set_new0, not_true_eq_false, not_false_eq_true, decide_true, decide_false, Bool.not_true, Bool.not_false, false_implies, true_implies, and_true, true_and, Bool.false_eq_true, Bool.true_eq_false, implies_true, Bool.not_not, Classical.not_not, go_sem, Int.reduceToNat, List.take_nil, Nat.zero_mul, Nat.reduceEqDiff, Nat.reduceAdd, Nat.reduceLT, Nat.reduceLeDiff, Nat.reduceMul, ↓reduceIte, reduceCtorEq]
        refine kJ_intro () trivial (Wk.keep ?_)
        simp [look_cons, wb]
    · rcases g.out with ⟨o1, o2, o3⟩ | ⟨o1, o2, cp, o3, o4⟩
      · have o3c : cellsOf σ 4 = some [.sn] := by simp [cellsOf, o3]
        simp only [onC_old o3c, List.append_assoc, at_new, at_new0, set_new, set_new0, at_old o3, not_true_eq_false, not_false_eq_true, decide_true, decide_false, Bool.not_true, Bool.not_false, false_implies, true_implies, and_true, true_and, Bool.false_eq_true, Bool.true_eq_false, implies_true, Bool.not_not, Classical.not_not, go_sem, Int.reduceToNat, List.take_nil, Nat.zero_mul, Nat.reduceEqDiff, Nat.reduceAdd, Nat.reduceLT, Nat.reduceLeDiff, Nat.reduceMul, ↓reduceIte, reduceCtorEq]
        refine fun cap hcap => Fin.plain (hK _ (σ.length + 2) ?_ ?_)
        · subst o1
          refine g.next (cp := cap) (by simp) (fun i h1 h2 h3 => ?_) ?_ ?_ (by omega)
          · rw [List.getElem?_set_ne (by omega), List.getElem?_append_left h1]
          · rw [List.getElem?_set_self (by simp; omega)]; rfl
          · rw [List.getElem?_set_ne (by omega), at_new]; rfl
        · refine ⟨by simp, .inr (by omega), fun i h1 h2 h3 => ?_⟩
          rw [List.getElem?_set_ne (by omega), List.getElem?_append_left h1]
      · have o3c : cellsOf σ 4 = some [.sl p 0 pre.length cp] := by simp [cellsOf, o3]
        simp only [onC_old o3c, List.append_assoc, at_new, at_new0, set_new, set_new0, at_old o3, at_old o4, not_true_eq_false, not_false_eq_true, decide_true, decide_false, Bool.not_true, Bool.not_false, false_implies, true_implies, and_true, true_and, Bool.false_eq_true, Bool.true_eq_false, implies_true, Bool.not_not, Classical.not_not, go_sem, Int.reduceToNat, List.take_nil, Nat.zero_mul, Nat.reduceEqDiff, Nat.reduceAdd, Nat.reduceLT, Nat.reduceLeDiff, Nat.reduceMul, ↓reduceIte, reduceCtorEq]
        rw [takeI, appI]
        refine ⟨by rw [lenI]; omega, fun cap hcap => ?_⟩
        have q4 : ∀ {A B C : AB}, ((σ ++ [A, B]).set p AB.dead ++ [C])[4]? = some (.rw ty_sl_int [.sl p 0 pre.length cp] 1) := fun {A B C} => at_old (by rw [List.getElem?_set_ne (by omega)]; exact at_old o3 _) _
        rw [q4]
        simp only [not_true_eq_false, not_false_eq_true, decide_true, decide_false, Bool.not_true, Bool.not_false, false_implies, true_implies, and_true, true_and, Bool.false_eq_true, Bool.true_eq_false, implies_true, Bool.not_not, Classical.not_not, go_sem, Int.reduceToNat, List.take_nil, Nat.zero_mul, Nat.reduceEqDiff, Nat.reduceAdd, Nat.reduceLT, Nat.reduceLeDiff, Nat.reduceMul, ↓reduceIte, reduceCtorEq]
        refine Fin.plain (hK _ (σ.length + 2) ?_ ?_)
        · refine g.next (cp := cap) (by simp; omega) (fun i h1 h2 h3 => ?_) ?_ ?_ (by omega)
          · rw [List.getElem?_set_ne (by omega), List.getElem?_append_left (by simp; omega), List.getElem?_set_ne (by omega), List.getElem?_append_left h1]
          · rw [List.getElem?_set_self (by simp; omega)]
          · rw [List.getElem?_set_ne (by omega), List.getElem?_append_right (by simp)]; simp
        · refine ⟨by simp; omega, .inr (by omega), fun i h1 h2 h3 => ?_⟩
          rw [List.getElem?_set_ne (by omega), List.getElem?_append_left (by simp; omega), List.getElem?_set_ne (by omega), List.getElem?_append_left h1]
theorem slices_Clone_nil {σ : List AB} {K : AV → List AB → Prop} (hk : K .sn σ) : CallWp Try.prog n_slices_Clone_int [.sn] σ K := by
  refine call_slices_Clone_int (by simp) ?_
  simp only [c_slices_Clone_int, not_true_eq_false, not_false_eq_true, decide_true, decide_false, Bool.not_true, Bool.not_false, false_implies, true_implies, and_true, true_and, Bool.false_eq_true, Bool.true_eq_false, implies_true, Bool.not_not, Classical.not_not, go_sem, Int.reduceToNat, List.take_nil, Nat.zero_mul, Nat.reduceEqDiff, Nat.reduceAdd, Nat.reduceLT, Nat.reduceLeDiff, Nat.reduceMul, ↓reduceIte, reduceCtorEq]
  exact Fin.plain hk
theorem slices_Clone_some {σ : List AB} {n o len cap : Nat} {cs : List AV} (h : cellsOf σ n = some cs) (hl : o + len ≤ cs.length) (h0 : 0 < len) (h1 : len ≤ 1000000) {K : AV → List AB → Prop}
    (hk : ∀ c, len ≤ c → K (.sl (σ.length + 1) 0 len c) ((σ ++ [.rw ty_int [] 0]) ++ [.rw ty_int (win cs o len) c])) : CallWp Try.prog n_slices_Clone_int [.sl n o len cap] σ K := by
  refine call_slices_Clone_int (by simp) ?_
  simp only [c_slices_Clone_int, at_new0, onC_old h, not_true_eq_false, not_false_eq_true, decide_true, decide_false, Bool.not_true, Bool.not_false, false_implies, true_implies, and_true, true_and, Bool.false_eq_true, Bool.true_eq_false, implies_true, Bool.not_not, Classical.not_not, go_sem, Int.reduceToNat, List.take_nil, Nat.zero_mul, Nat.reduceEqDiff, Nat.reduceAdd, Nat.reduceLT, Nat.reduceLeDiff, Nat.reduceMul, ↓reduceIte, reduceCtorEq]
  exact ⟨fun h2 => absurd h2 (by omega), ⟨by omega, by omega⟩, fun h2 => absurd h2 (by omega), fun _ c hc => Fin.plain (hk c hc)⟩
theorem impl_clone_nil {σ : List AB} {K : AV → List AB → Prop} (hk : K .sn σ) : CallWp Try.prog n_impl_clone_int [.sn] σ K := by
  refine call_impl_clone_int (by simp) ?_
  simp only [c_impl_clone_int, not_true_eq_false, not_false_eq_true, decide_true, decide_false, Bool.not_true, Bool.not_false, false_implies, true_implies, and_true, true_and, Bool.false_eq_true, Bool.true_eq_false, implies_true, Bool.not_not, Classical.not_not, go_sem, Int.reduceToNat, List.take_nil, Nat.zero_mul, Nat.reduceEqDiff, Nat.reduceAdd, Nat.reduceLT, Nat.reduceLeDiff, Nat.reduceMul, ↓reduceIte, reduceCtorEq]
  refine slices_Clone_nil ?_
  simp only [not_true_eq_false, not_false_eq_true, decide_true, decide_false, Bool.not_true, Bool.not_false, false_implies, true_implies, and_true, true_and, Bool.false_eq_true, Bool.true_eq_false, implies_true, Bool.not_not, Classical.not_not, go_sem, Int.reduceToNat, List.take_nil, Nat.zero_mul, Nat.reduceEqDiff, Nat.reduceAdd, Nat.reduceLT, Nat.reduceLeDiff, Nat.reduceMul, ↓reduceIte, reduceCtorEq]
  refine slices_Clip_int_nil ?_
  simp only [not_true_eq_false, not_false_eq_true, decide_true, decide_false, Bool.not_true, Bool.not_false, false_implies, true_implies, and_true, true_and, Bool.false_eq_true, Bool.true_eq_false, implies_true, Bool.not_not, Classical.not_not, go_sem, Int.reduceToNat, List.take_nil, Nat.zero_mul, Nat.reduceEqDiff, Nat.reduceAdd, Nat.reduceLT, Nat.reduceLeDiff, Nat.reduceMul, ↓reduceIte, reduceCtorEq]
  exact Fin.plain hk
theorem impl_clone_some {σ : List AB} {n o len cap : Nat} {cs : List AV} (h : cellsOf σ n = some cs) (hl : o + len ≤ cs.length) (h0 : 0 < len) (h1 : len ≤ 1000000) {K : AV → List AB → Prop}
    (hk : ∀ c, len ≤ c → K (.sl (σ.length + 1) 0 len len) ((σ ++ [.rw ty_int [] 0]) ++ [.rw ty_int (win cs o len) c])) : CallWp Try.prog n_impl_clone_int [.sl n o len cap] σ K := by
  refine call_impl_clone_int (by simp) ?_
  simp only [c_impl_clone_int, not_true_eq_false, not_false_eq_true, decide_true, decide_false, Bool.not_true, Bool.not_false, false_implies, true_implies, and_true, true_and, Bool.false_eq_true, Bool.true_eq_false, implies_true, Bool.not_not, Classical.not_not, go_sem, Int.reduceToNat, List.take_nil, Nat.zero_mul, Nat.reduceEqDiff, Nat.reduceAdd, Nat.reduceLT, Nat.reduceLeDiff, Nat.reduceMul, ↓reduceIte, reduceCtorEq]
  refine slices_Clone_some h hl h0 h1 fun c hc => ?_
  simp only [not_true_eq_false, not_false_eq_true, decide_true, decide_false, Bool.not_true, Bool.not_false, false_implies, true_implies, and_true, true_and, Bool.false_eq_true, Bool.true_eq_false, implies_true, Bool.not_not, Classical.not_not, go_sem, Int.reduceToNat, List.take_nil, Nat.zero_mul, Nat.reduceEqDiff, Nat.reduceAdd, Nat.reduceLT, Nat.reduceLeDiff, Nat.reduceMul, ↓reduceIte, reduceCtorEq]
  refine slices_Clip_int_ (b := .rw ty_int (win cs o len) c) ?_ hc ?_
  · rw [show σ.length + 1 = (σ ++ [AB.rw ty_int [] 0]).length by simp, at_new0]; rfl
  · simp only [not_true_eq_false, not_false_eq_true, decide_true, decide_false, Bool.not_true, Bool.not_false, false_implies, true_implies, and_true, true_and, Bool.false_eq_true, Bool.true_eq_false, implies_true, Bool.not_not, Classical.not_not, go_sem, Int.reduceToNat, List.take_nil, Nat.zero_mul, Nat.reduceEqDiff, Nat.reduceAdd, Nat.reduceLT, Nat.reduceLeDiff, Nat.reduceMul, ↓reduceIte, reduceCtorEq]
    exact Fin.plain (hk c hc)
theorem impl_WorstChoices0 (P : List Nd) (hl : P.length ≤ 1000000) (c : Nat) : CallWp Try.prog n_impl_WorstChoices [.sl 0 0 P.length c] [.ro (encNd.row P)]
    (fun x σ => ∃ τ, σ = [.ro (encNd.row P)] ++ τ ∧ ((worstOf P = [] ∧ x = .sn ∧ τ = []) ∨ (worstOf P ≠ [] ∧ ∃ r, x = .sl 1 0 (worstOf P).length (worstOf P).length ∧ τ = [.rw ty_int (encInt.row (worstOf P)) r]))) := by
  refine call_impl_WorstChoices (by simp) ?_
  simp only [c_impl_WorstChoices, not_true_eq_false, not_false_eq_true, decide_true, decide_false, Bool.not_true, Bool.not_false, false_implies, true_implies, and_true, true_and, Bool.false_eq_true, Bool.true_eq_false, implies_true, Bool.not_not, Classical.not_not, go_sem, Int.reduceToNat, List.take_nil, Nat.zero_mul, Nat.reduceEqDiff, Nat.reduceAdd, Nat.reduceLT, Nat.reduceLeDiff, Nat.reduceMul, ↓reduceIte, reduceCtorEq]
  refine impl_ProgramValid_ hl (Rd.own rfl) ?_
  simp only [not_true_eq_false, not_false_eq_true, decide_true, decide_false, Bool.not_true, Bool.not_false, false_implies, true_implies, and_true, true_and, Bool.false_eq_true, Bool.true_eq_false, implies_true, Bool.not_not, Classical.not_not, go_sem, Int.reduceToNat, List.take_nil, Nat.zero_mul, Nat.reduceEqDiff, Nat.reduceAdd, Nat.reduceLT, Nat.reduceLeDiff, Nat.reduceMul, ↓reduceIte, reduceCtorEq]
  refine ⟨fun h => ?_, fun h => ?_⟩
  · exact Fin.pick [0] .sn [.ro (encNd.row P)] ⟨[], rfl, .inl ⟨by rw [worstOf, if_neg h], rfl, rfl⟩⟩
  · have h1 := h.1
    have hw := wch_all_small h
    have ew : worstOf P = wch P (P.length - 1) := by rw [worstOf, if_pos h]
    refine impl_worst_ h.2.1 h1.2 (Rd.own rfl) fun q => ?_
    simp only [not_true_eq_false, not_false_eq_true, decide_true, decide_false, Bool.not_true, Bool.not_false, false_implies, true_implies, and_true, true_and, Bool.false_eq_true, Bool.true_eq_false, implies_true, Bool.not_not, Classical.not_not, go_sem, Int.reduceToNat, List.take_nil, Nat.zero_mul, Nat.reduceEqDiff, Nat.reduceAdd, Nat.reduceLT, Nat.reduceLeDiff, Nat.reduceMul, ↓reduceIte, reduceCtorEq]
    refine ⟨by omega, ?_⟩
    have e : ((P.length : Int) - 1) = ((P.length - 1 : Nat) : Int) := by omega
    rw [e]
    refine impl_execute_ (wst_chooser (c := c) (q := q) (W := wch P (P.length - 1)) h.2.1 (by omega)) h.2.1 h1.2 c (P.length - 1 + 1) (P.length - 1) (by omega) (by omega) h.2.2 [] _ 4 _ ⟨rfl, rfl, rfl, rfl, .inl ⟨rfl, rfl, rfl⟩⟩ (by rw [List.nil_append]; exact List.prefix_refl _) fun σ' p' g k1 => ?_
    rw [List.nil_append] at g
    have t0 := k1.2.2 0 (by simp) (by omega) (by omega)
    change σ'[0]? = some (AB.ro (encNd.row P)) at t0
    obtain ⟨g4, gp⟩ := g.four
    rcases g.out with ⟨o1, o2, o3⟩ | ⟨o1, o2, cp, o3, o4⟩
    · have o3c : cellsOf σ' 4 = some [.sn] := by simp [cellsOf, o3]
      simp only [onC_of o3c, not_true_eq_false, not_false_eq_true, decide_true, decide_false, Bool.not_true, Bool.not_false, false_implies, true_implies, and_true, true_and, Bool.false_eq_true, Bool.true_eq_false, implies_true, Bool.not_not, Classical.not_not, go_sem, Int.reduceToNat, List.take_nil, Nat.zero_mul, Nat.reduceEqDiff, Nat.reduceAdd, Nat.reduceLT, Nat.reduceLeDiff, Nat.reduceMul, ↓reduceIte, reduceCtorEq]
      refine impl_clone_nil ?_
      simp only [not_true_eq_false, not_false_eq_true, decide_true, decide_false, Bool.not_true, Bool.not_false, false_implies, true_implies, and_true, true_and, Bool.false_eq_true, Bool.true_eq_false, implies_true, Bool.not_not, Classical.not_not, go_sem, Int.reduceToNat, List.take_nil, Nat.zero_mul, Nat.reduceEqDiff, Nat.reduceAdd, Nat.reduceLT, Nat.reduceLeDiff, Nat.reduceMul, ↓reduceIte, reduceCtorEq]
      refine Fin.pick [0] .sn [.ro (encNd.row P)] ⟨[], rfl, .inl ⟨by rw [ew, o1], rfl, rfl⟩⟩ (hσ := ?_) (hlt := ?_)
      · simp [pickB, t0]
      · simp [ltAll]; omega
    · have o3c : cellsOf σ' 4 = some [.sl p' 0 (wch P (P.length - 1)).length cp] := by simp [cellsOf, o3]
      have o4c : cellsOf σ' p' = some (encInt.row (wch P (P.length - 1))) := by simp [cellsOf, o4]
      have hpos : 0 < (wch P (P.length - 1)).length := List.length_pos_iff.2 o1
      simp only [onC_of o3c, not_true_eq_false, not_false_eq_true, decide_true, decide_false, Bool.not_true, Bool.not_false, false_implies, true_implies, and_true, true_and, Bool.false_eq_true, Bool.true_eq_false, implies_true, Bool.not_not, Classical.not_not, go_sem, Int.reduceToNat, List.take_nil, Nat.zero_mul, Nat.reduceEqDiff, Nat.reduceAdd, Nat.reduceLT, Nat.reduceLeDiff, Nat.reduceMul, ↓reduceIte, reduceCtorEq]
      refine impl_clone_some o4c (by rw [lenI]; omega) hpos (by omega) fun r hr => ?_
      rw [winI]
      simp only [not_true_eq_false, not_false_eq_true, decide_true, decide_false, Bool.not_true, Bool.not_false, false_implies, true_implies, and_true, true_and, Bool.false_eq_true, Bool.true_eq_false, implies_true, Bool.not_not, Classical.not_not, go_sem, Int.reduceToNat, List.take_nil, Nat.zero_mul, Nat.reduceEqDiff, Nat.reduceAdd, Nat.reduceLT, Nat.reduceLeDiff, Nat.reduceMul, ↓reduceIte, reduceCtorEq]
      refine Fin.pick [0, σ'.length + 1] (.sl 1 0 (wch P (P.length - 1)).length (wch P (P.length - 1)).length) [.ro (encNd.row P), .rw ty_int (encInt.row (wch P (P.length - 1))) r] ⟨_, rfl, .inr ⟨by rw [ew]; exact o1, r, by rw [ew], by rw [ew]⟩⟩ (hσ := ?_) (hlt := ?_) (hn := ?_)
      · have l1 : (σ' ++ [AB.rw ty_int [] 0]).length = σ'.length + 1 := by simp
        have g0 : (σ' ++ [AB.rw ty_int [] 0] ++ [AB.rw ty_int (encInt.row (wch P (P.length - 1))) r])[0]? = some (.ro (encNd.row P)) := at_old (at_old t0 _) _
        have g1 : (σ' ++ [AB.rw ty_int [] 0] ++ [AB.rw ty_int (encInt.row (wch P (P.length - 1))) r])[σ'.length + 1]? = some (AB.rw ty_int (encInt.row (wch P (P.length - 1))) r) := by rw [← l1, at_new0]; rfl
        simp only [pickB, List.map_cons, List.map_nil, List.getD_eq_getElem?_getD, g0, g1, Option.getD_some]
      · simp [ltAll]
      · simp [nodup]
theorem impl_WorstChoices_ {P : List Nd} {v : AV} {σ : List AB} {K : AV → List AB → Prop} (hl : P.length ≤ 1000000) (hv : Rd encNd σ v P) (hk : ∀ x τ, Rd encInt (σ ++ τ) x (worstOf P) → K x (σ ++ τ)) : CallWp Try.prog n_impl_WorstChoices [v] σ K := by
  refine call_news _ (rds1 hv.r) (fun c => [.sl 0 0 P.length (c 0)]) (fun x τ => ((worstOf P = [] ∧ x = .sn ∧ τ = []) ∨ (worstOf P ≠ [] ∧ ∃ r, x = .sl 1 0 (worstOf P).length (worstOf P).length ∧ τ = [.rw ty_int (encInt.row (worstOf P)) r]))) (fun c => impl_WorstChoices0 P hl (c 0)) ?_ (fun ν c h => ⟨h.1, trivial⟩) (fun _ => rfl) ?_
  · rintro x τ (⟨h1, rfl, rfl⟩ | ⟨h1, r, rfl, rfl⟩)
    · exact ⟨rfl, rfl⟩
    · exact ⟨by simp [plainRw, Enc.row_flat], rfl⟩
  · rintro x τ (⟨h1, rfl, rfl⟩ | ⟨h1, r, rfl, rfl⟩)
    · refine hk _ _ (.inr ⟨rfl, h1, ?_⟩)
      rw [List.append_nil]
      rcases hv with ⟨n, o, cap, cs, _, hn, _⟩ | ⟨_, _, h0⟩ <;> omega
    · refine hk _ _ ?_
      have e : shift 1 σ.length (AV.sl 1 0 (worstOf P).length (worstOf P).length) = .sl σ.length 0 (worstOf P).length (worstOf P).length := by simp [shift, ren, ren1, renC]
      rw [show [(⟨v, P.length, encNd.row P⟩ : Sl)].length = 1 from rfl, e]
      exact Rd.fresh
end Go.Proofs.Ytfngcejaphhmmaa
