import Derived.Test.YtmphblbpofnpaaaSH
import Derived.Test.YtmphblbpofnpaaaE7
import Derived.Test.YtmphblbpofnpaaaF2
import Derived.Test.YtmphblbpofnpaaaD4
namespace Go.Proofs.Ytmphblbpofnpaaa
open Go.Abs Go.Ds
set_option linter.unusedSimpArgs false
set_option linter.unusedVariables false
set_option maxRecDepth 20000
set_option maxHeartbeats 2000000
theorem laws_sameGlobal_ {σ : List AB} {x y : AV} {R : List (List Int)} {F : List Int} {K : AV → List AB → Prop} (hx : GlobAns σ x R F) (hy : GlobAns σ y R F) (l1 : R.length ≤ 1000000) (l2 : F.length ≤ 1000000) (l5 : ∀ r ∈ R, r.length ≤ 1000000)
    (hk : ∀ τ, K (.b true) (σ ++ τ)) : CallWp Try.prog n_laws_sameGlobal [x, y] σ K := by
  obtain ⟨v1, v2, rfl, a1, a2⟩ := hx
  obtain ⟨w1, w2, rfl, b1, b2⟩ := hy
  refine callC_laws_sameGlobal (by simp) fun hC hA => ?_
  rcases a1 with ⟨n4, o4, c4, cs4, rfl, hc4, hl4, hr4⟩ | ⟨rfl, hsd, h0⟩
  · rcases b1 with ⟨m4, p4, d4, ds4, rfl, hd4, hm4, hs4⟩ | ⟨rfl, hsd, h0⟩
    · simp only [c_laws_sameGlobal, List.append_assoc, List.cons_append, List.nil_append, at_new, at_new0, a2.data, b2.data, not_true_eq_false, not_false_eq_true, decide_true, decide_false, Bool.not_true, Bool.not_false, false_implies, true_implies, and_true, true_and, Bool.false_eq_true, Bool.true_eq_false, implies_true, Bool.not_not, Classical.not_not, go_sem, Int.reduceToNat, List.take_nil, Nat.zero_mul, Nat.reduceEqDiff, Nat.reduceAdd, Nat.reduceLT, Nat.reduceLeDiff, Nat.reduceMul, ↓reduceIte, reduceCtorEq]
      try refine ⟨fun h => absurd rfl h, fun _ => ?_⟩
      refine laws_sameInts_ (by omega) a2.app b2.app ?_
      simp only [List.append_assoc, List.cons_append, List.nil_append, at_new, at_new0, not_true_eq_false, not_false_eq_true, decide_true, decide_false, Bool.not_true, Bool.not_false, false_implies, true_implies, and_true, true_and, Bool.false_eq_true, Bool.true_eq_false, implies_true, Bool.not_not, Classical.not_not, go_sem, Int.reduceToNat, List.take_nil, Nat.zero_mul, Nat.reduceEqDiff, Nat.reduceAdd, Nat.reduceLT, Nat.reduceLeDiff, Nat.reduceMul, ↓reduceIte, reduceCtorEq]
      refine loop_count R.length (fun k => ⟨[(2, .p σ.length 0), (3, .p (σ.length + 1) 0), (5, .i .i64 k)], σ ++ [.rw ty_impl_GlobalRun [.sl n4 o4 R.length c4, v2] 2, .rw ty_impl_GlobalRun [.sl m4 p4 R.length d4, w2] 2]⟩) (fun _ => True) trivial (Wk.keep (by simp [look_cons])) fun k hkl _ => ?_
      simp only [l0_laws_sameGlobal, at_new, at_new0, not_true_eq_false, not_false_eq_true, decide_true, decide_false, Bool.not_true, Bool.not_false, false_implies, true_implies, and_true, true_and, Bool.false_eq_true, Bool.true_eq_false, implies_true, Bool.not_not, Classical.not_not, go_sem, Int.reduceToNat, List.take_nil, Nat.zero_mul, Nat.reduceEqDiff, Nat.reduceAdd, Nat.reduceLT, Nat.reduceLeDiff, Nat.reduceMul, ↓reduceIte, reduceCtorEq]
      refine ⟨fun hk1 => ?_, fun hk1 => Fin.plain (hk _)⟩
      have r1 := hr4 k hk1
      have r2 := hs4 k hk1
      simp only [onC_of (cells_old hc4 _), onC_of (cells_old hd4 _), r1.data, r2.data, not_true_eq_false, not_false_eq_true, decide_true, decide_false, Bool.not_true, Bool.not_false, false_implies, true_implies, and_true, true_and, Bool.false_eq_true, Bool.true_eq_false, implies_true, Bool.not_not, Classical.not_not, go_sem, Int.reduceToNat, List.take_nil, Nat.zero_mul, Nat.reduceEqDiff, Nat.reduceAdd, Nat.reduceLT, Nat.reduceLeDiff, Nat.reduceMul, ↓reduceIte, reduceCtorEq]
      refine ⟨hk1, by omega, hk1, by omega, ?_⟩
      refine onCall.by (laws_sameInts_ (by have := l5 _ (List.getElem_mem hk1); omega) r1.app r2.app ⟨rfl, rfl⟩) ?_
      simp only [not_true_eq_false, not_false_eq_true, decide_true, decide_false, Bool.not_true, Bool.not_false, false_implies, true_implies, and_true, true_and, Bool.false_eq_true, Bool.true_eq_false, implies_true, Bool.not_not, Classical.not_not, go_sem, Int.reduceToNat, List.take_nil, Nat.zero_mul, Nat.reduceEqDiff, Nat.reduceAdd, Nat.reduceLT, Nat.reduceLeDiff, Nat.reduceMul, ↓reduceIte, reduceCtorEq]
      exact ⟨by omega, hk1, Wk.keep (by simp [look_cons])⟩
    · subst hsd
      simp only [c_laws_sameGlobal, List.length_nil, List.append_assoc, List.cons_append, List.nil_append, at_new, at_new0, a2.data, b2.data, not_true_eq_false, not_false_eq_true, decide_true, decide_false, Bool.not_true, Bool.not_false, false_implies, true_implies, and_true, true_and, Bool.false_eq_true, Bool.true_eq_false, implies_true, Bool.not_not, Classical.not_not, go_sem, Int.reduceToNat, List.take_nil, Nat.zero_mul, Nat.reduceEqDiff, Nat.reduceAdd, Nat.reduceLT, Nat.reduceLeDiff, Nat.reduceMul, ↓reduceIte, reduceCtorEq]
      refine ⟨fun _ => ?_, fun h => absurd rfl h⟩
      refine laws_sameInts_ (by omega) a2.app b2.app ?_
      simp only [List.append_assoc, List.cons_append, List.nil_append, at_new, at_new0, not_true_eq_false, not_false_eq_true, decide_true, decide_false, Bool.not_true, Bool.not_false, false_implies, true_implies, and_true, true_and, Bool.false_eq_true, Bool.true_eq_false, implies_true, Bool.not_not, Classical.not_not, go_sem, Int.reduceToNat, List.take_nil, Nat.zero_mul, Nat.reduceEqDiff, Nat.reduceAdd, Nat.reduceLT, Nat.reduceLeDiff, Nat.reduceMul, ↓reduceIte, reduceCtorEq]
      refine loop_count 0 (fun k => ⟨[(2, .p σ.length 0), (3, .p (σ.length + 1) 0), (5, .i .i64 k)], σ ++ [.rw ty_impl_GlobalRun [.sl n4 o4 0 c4, v2] 2, .rw ty_impl_GlobalRun [.sn, w2] 2]⟩) (fun k => k = 0) rfl (Wk.keep (by simp [look_cons])) fun k hkl hJ => ?_
      subst hJ
      simp only [l0_laws_sameGlobal, at_new, at_new0, not_true_eq_false, not_false_eq_true, decide_true, decide_false, Bool.not_true, Bool.not_false, false_implies, true_implies, and_true, true_and, Bool.false_eq_true, Bool.true_eq_false, implies_true, Bool.not_not, Classical.not_not, go_sem, Int.reduceToNat, List.take_nil, Nat.zero_mul, Nat.reduceEqDiff, Nat.reduceAdd, Nat.reduceLT, Nat.reduceLeDiff, Nat.reduceMul, ↓reduceIte, reduceCtorEq]
      first | exact Fin.plain (hk _) | exact ⟨fun h => absurd h (by omega), fun _ => Fin.plain (hk _)⟩
  · subst hsd
    rcases b1 with ⟨m4, p4, d4, ds4, rfl, hd4, hm4, hs4⟩ | ⟨rfl, hsd, h0⟩
    · simp only [c_laws_sameGlobal, List.length_nil, List.append_assoc, List.cons_append, List.nil_append, at_new, at_new0, a2.data, b2.data, not_true_eq_false, not_false_eq_true, decide_true, decide_false, Bool.not_true, Bool.not_false, false_implies, true_implies, and_true, true_and, Bool.false_eq_true, Bool.true_eq_false, implies_true, Bool.not_not, Classical.not_not, go_sem, Int.reduceToNat, List.take_nil, Nat.zero_mul, Nat.reduceEqDiff, Nat.reduceAdd, Nat.reduceLT, Nat.reduceLeDiff, Nat.reduceMul, ↓reduceIte, reduceCtorEq]
      refine ⟨fun _ => ?_, fun h => absurd rfl h⟩
      refine laws_sameInts_ (by omega) a2.app b2.app ?_
      simp only [List.append_assoc, List.cons_append, List.nil_append, at_new, at_new0, not_true_eq_false, not_false_eq_true, decide_true, decide_false, Bool.not_true, Bool.not_false, false_implies, true_implies, and_true, true_and, Bool.false_eq_true, Bool.true_eq_false, implies_true, Bool.not_not, Classical.not_not, go_sem, Int.reduceToNat, List.take_nil, Nat.zero_mul, Nat.reduceEqDiff, Nat.reduceAdd, Nat.reduceLT, Nat.reduceLeDiff, Nat.reduceMul, ↓reduceIte, reduceCtorEq]
      refine loop_count 0 (fun k => ⟨[(2, .p σ.length 0), (3, .p (σ.length + 1) 0), (5, .i .i64 k)], σ ++ [.rw ty_impl_GlobalRun [.sn, v2] 2, .rw ty_impl_GlobalRun [.sl m4 p4 0 d4, w2] 2]⟩) (fun k => k = 0) rfl (Wk.keep (by simp [look_cons])) fun k hkl hJ => ?_
      subst hJ
      simp only [l0_laws_sameGlobal, at_new, at_new0, not_true_eq_false, not_false_eq_true, decide_true, decide_false, Bool.not_true, Bool.not_false, false_implies, true_implies, and_true, true_and, Bool.false_eq_true, Bool.true_eq_false, implies_true, Bool.not_not, Classical.not_not, go_sem, Int.reduceToNat, List.take_nil, Nat.zero_mul, Nat.reduceEqDiff, Nat.reduceAdd, Nat.reduceLT, Nat.reduceLeDiff, Nat.reduceMul, ↓reduceIte, reduceCtorEq]
      first | exact Fin.plain (hk _) | exact ⟨fun h => absurd h (by omega), fun _ => Fin.plain (hk _)⟩
    · simp only [c_laws_sameGlobal, List.length_nil, List.append_assoc, List.cons_append, List.nil_append, at_new, at_new0, a2.data, b2.data, not_true_eq_false, not_false_eq_true, decide_true, decide_false, Bool.not_true, Bool.not_false, false_implies, true_implies, and_true, true_and, Bool.false_eq_true, Bool.true_eq_false, implies_true, Bool.not_not, Classical.not_not, go_sem, Int.reduceToNat, List.take_nil, Nat.zero_mul, Nat.reduceEqDiff, Nat.reduceAdd, Nat.reduceLT, Nat.reduceLeDiff, Nat.reduceMul, ↓reduceIte, reduceCtorEq]
      try refine ⟨fun h => absurd rfl h, fun _ => ?_⟩
      refine laws_sameInts_ (by omega) a2.app b2.app ?_
      simp only [List.append_assoc, List.cons_append, List.nil_append, at_new, at_new0, not_true_eq_false, not_false_eq_true, decide_true, decide_false, Bool.not_true, Bool.not_false, false_implies, true_implies, and_true, true_and, Bool.false_eq_true, Bool.true_eq_false, implies_true, Bool.not_not, Classical.not_not, go_sem, Int.reduceToNat, List.take_nil, Nat.zero_mul, Nat.reduceEqDiff, Nat.reduceAdd, Nat.reduceLT, Nat.reduceLeDiff, Nat.reduceMul, ↓reduceIte, reduceCtorEq]
      refine loop_count 0 (fun k => ⟨[(2, .p σ.length 0), (3, .p (σ.length + 1) 0), (5, .i .i64 k)], σ ++ [.rw ty_impl_GlobalRun [.sn, v2] 2, .rw ty_impl_GlobalRun [.sn, w2] 2]⟩) (fun k => k = 0) rfl (Wk.keep (by simp [look_cons])) fun k hkl hJ => ?_
      subst hJ
      simp only [l0_laws_sameGlobal, at_new, at_new0, not_true_eq_false, not_false_eq_true, decide_true, decide_false, Bool.not_true, Bool.not_false, false_implies, true_implies, and_true, true_and, Bool.false_eq_true, Bool.true_eq_false, implies_true, Bool.not_not, Classical.not_not, go_sem, Int.reduceToNat, List.take_nil, Nat.zero_mul, Nat.reduceEqDiff, Nat.reduceAdd, Nat.reduceLT, Nat.reduceLeDiff, Nat.reduceMul, ↓reduceIte, reduceCtorEq]
      first | exact Fin.plain (hk _) | exact ⟨fun h => absurd h (by omega), fun _ => Fin.plain (hk _)⟩
def CoreP (p : Int) (x : AV) (p' : Int) (τ : List AB) : Prop := (p ≤ p' ∧ p' ≤ p + 20) ∧ ∃ m : Int, x = .i .i64 m ∧ (-1 ≤ m ∧ m ≤ 6) ∧ τ = []
theorem spec_l20CoresG0 (B : List Nat) (p : Int) (hC : Code B) (hp : 0 ≤ p ∧ p ≤ 3600000000000) (n : Int) (hn : n ≤ 1000) (c : Nat) : CallWp Try.prog n_spec_l20Cores [.p 1 0, .i .i64 n] (rdr B c p) (fun x σ' => ∃ p' τ, σ' = rdr B c p' ++ τ ∧ CoreP p x p' τ) := by
  refine call_spec_l20Cores (by simp) ?_
  simp only [c_spec_l20Cores, not_true_eq_false, not_false_eq_true, decide_true, decide_false, Bool.not_true, Bool.not_false, false_implies, true_implies, and_true, true_and, Bool.false_eq_true, Bool.true_eq_false, implies_true, Bool.not_not, Classical.not_not, go_sem, Int.reduceToNat, List.take_nil, Nat.zero_mul, Nat.reduceEqDiff, Nat.reduceAdd, Nat.reduceLT, Nat.reduceLeDiff, Nat.reduceMul, ↓reduceIte, reduceCtorEq]
  refine spec_l20Rd_odd_ (Rdr.of (τ := [])) hC (by omega) _ (by omega) fun b p1 h1 h2 _ => ?_
  simp only [not_true_eq_false, not_false_eq_true, decide_true, decide_false, Bool.not_true, Bool.not_false, false_implies, true_implies, and_true, true_and, Bool.false_eq_true, Bool.true_eq_false, implies_true, Bool.not_not, Classical.not_not, go_sem, Int.reduceToNat, List.take_nil, Nat.zero_mul, Nat.reduceEqDiff, Nat.reduceAdd, Nat.reduceLT, Nat.reduceLeDiff, Nat.reduceMul, ↓reduceIte, reduceCtorEq]
  refine bc_of (fun hb => ?_) (fun hb => ?_)
  · refine spec_l20Rd_pick_ (Rdr.of (τ := [_])) hC (by omega) _ (by omega) fun k g1 g2 _ => ?_
    have g2 := g2 (by omega)
    obtain ⟨k, rfl⟩ := Int.eq_ofNat_of_zero_le g1
    have hk : k = 0 ∨ k = 1 ∨ k = 2 := by omega
    rcases hk with rfl | rfl | rfl
    all_goals
      simp only [rd, not_true_eq_false, not_false_eq_true, decide_true, decide_false, Bool.not_true, Bool.not_false, false_implies, true_implies, and_true, true_and, Bool.false_eq_true, Bool.true_eq_false, implies_true, Bool.not_not, Classical.not_not, go_sem, Int.reduceToNat, List.take_nil, Nat.zero_mul, Nat.reduceEqDiff, Nat.reduceAdd, Nat.reduceLT, Nat.reduceLeDiff, Nat.reduceMul, ↓reduceIte, reduceCtorEq]
    · exact Fin.pick [0, 1] (.i .i64 0) (rdr B c (p1 + 1)) ⟨p1 + 1, [], rfl, by omega, 0, rfl, by omega, rfl⟩
    · exact Fin.pick [0, 1] (.i .i64 (-1)) (rdr B c (p1 + 1)) ⟨p1 + 1, [], rfl, by omega, -1, rfl, by omega, rfl⟩
    · exact Fin.pick [0, 1] (.i .i64 6) (rdr B c (p1 + 1)) ⟨p1 + 1, [], rfl, by omega, 6, rfl, by omega, rfl⟩
  · refine spec_l20Rd_pick_ (Rdr.of (τ := [])) hC (by omega) _ (by omega) fun k g1 g2 _ => ?_
    have g2 := g2 (by omega)
    simp only [not_true_eq_false, not_false_eq_true, decide_true, decide_false, Bool.not_true, Bool.not_false, false_implies, true_implies, and_true, true_and, Bool.false_eq_true, Bool.true_eq_false, implies_true, Bool.not_not, Classical.not_not, go_sem, Int.reduceToNat, List.take_nil, Nat.zero_mul, Nat.reduceEqDiff, Nat.reduceAdd, Nat.reduceLT, Nat.reduceLeDiff, Nat.reduceMul, ↓reduceIte, reduceCtorEq]
    exact ⟨by omega, Fin.plain ⟨p1 + 1, [], rfl, by omega, _, rfl, by omega, rfl⟩⟩
theorem spec_l20CoresG_ {σ : List AB} {n m o c : Nat} {B : List Nat} {p : Int} (h : Rdr ty_spec_l20Rd σ n B p m o c) (hC : Code B) (hp : 0 ≤ p ∧ p ≤ 3600000000000) (k : Int) (hk : k ≤ 1000) {K : AV → List AB → Prop}
    (hK : ∀ (x p' : Int), p ≤ p' → p' ≤ p + 20 → -1 ≤ x → x ≤ 6 → K (.i .i64 x) (σ.set n (.rw ty_spec_l20Rd [.sl m o B.length c, .i .i64 p'] 2))) : CallWp Try.prog n_spec_l20Cores [.p n 0, .i .i64 k] σ K := by
  refine call_rdr ty_spec_l20Rd h [] (by simp) (fun _ => [.i .i64 k]) (CoreP p) (fun _ => spec_l20CoresG0 B p hC hp k hk c) ?_ (fun _ _ _ => ⟨.inl rfl, trivial⟩) (fun _ => rfl) ?_
  · rintro x p' τ ⟨_, m, rfl, _, rfl⟩; exact ⟨rfl, rfl⟩
  · rintro x p' τ ⟨⟨h1, h2⟩, m, rfl, ⟨h3, h4⟩, rfl⟩
    have := hK m p' h1 h2 h3 h4
    simp only [List.append_nil]
    exact this
theorem spec_DrawRunGlobal0 (C : List Nat) (hC : ∀ x ∈ C, x < 256) (c : Nat) (hc : C.length ≤ c) : CallWp Try.prog n_spec_DrawRunGlobal [.sl 0 0 C.length c] [.ro (encByte.row C)] (fun x σ' => ∃ (S : List Task) (L : List Job) (cap cap' : Nat) (m : Int),
    x = .tup [.sl 1 0 S.length cap, .sl 2 0 L.length cap', .i .i64 m] ∧ σ' = [.ro (encByte.row C), .rw ty_impl_Task (encTask.row S) (cap * 3), .rw ty_impl_Job (encJob.row L) (cap' * 4)] ∧ (S.length ≤ 8 ∧ ∀ t ∈ S, wildT t) ∧ L.length ≤ 62 ∧ -1 ≤ m ∧ m ≤ 6) := by
  refine call_spec_DrawRunGlobal (by simp) ?_
  simp only [c_spec_DrawRunGlobal, go_sem, Int.reduceToNat, List.take_nil, Nat.zero_mul, Nat.reduceEqDiff, Nat.reduceAdd, Nat.reduceLT, Nat.reduceLeDiff, Nat.reduceMul, ↓reduceIte, reduceCtorEq]
  refine (spec_l20Open0 C c hc).mono ?_
  rintro x σ' _ ⟨rfl, rfl⟩
  simp only [go_sem, Int.reduceToNat, List.take_nil, Nat.zero_mul, Nat.reduceEqDiff, Nat.reduceAdd, Nat.reduceLT, Nat.reduceLeDiff, Nat.reduceMul, ↓reduceIte, reduceCtorEq]
  refine spec_l20Set_ (Rdr.take (τ := [])) (Code.take hC) (by omega) _ (by omega) fun S cap p1 h11 h12 hS8 hS _ => ?_
  simp only [go_sem, Int.reduceToNat, List.take_nil, Nat.zero_mul, Nat.reduceEqDiff, Nat.reduceAdd, Nat.reduceLT, Nat.reduceLeDiff, Nat.reduceMul, ↓reduceIte, reduceCtorEq]
  refine spec_l20CoresG_ (Rdr.take (τ := [_])) (Code.take hC) (by omega) _ (by omega) fun m p2 h21 h22 hm1 hm2 => ?_
  simp only [go_sem, Int.reduceToNat, List.take_nil, Nat.zero_mul, Nat.reduceEqDiff, Nat.reduceAdd, Nat.reduceLT, Nat.reduceLeDiff, Nat.reduceMul, ↓reduceIte, reduceCtorEq]
  refine spec_SetValid_ (L := S) (by omega) (Rd.own rfl) ?_
  simp only [not_true_eq_false, not_false_eq_true, decide_true, decide_false, Bool.not_true, Bool.not_false, false_implies, true_implies, and_true, true_and, Bool.false_eq_true, Bool.true_eq_false, implies_true, Bool.not_not, Classical.not_not, go_sem, Int.reduceToNat, List.take_nil, Nat.zero_mul, Nat.reduceEqDiff, Nat.reduceAdd, Nat.reduceLT, Nat.reduceLeDiff, Nat.reduceMul, ↓reduceIte, reduceCtorEq]
  refine ⟨fun hv => ?_, fun hv => ?_⟩
  · exact Fin.pick [0, 2, 3] (.tup [.sl 1 0 S.length cap, .sl 2 0 0 0, .i .i64 m]) [.ro (encByte.row C), .rw ty_impl_Task (encTask.row S) (cap * 3), .rw ty_impl_Job (encJob.row []) (0 * 4)] ⟨S, [], cap, 0, m, rfl, rfl, ⟨hS8, hS⟩, by simp, hm1, hm2⟩
  · refine spec_l20Jobs_ (Rdr.take (τ := [_])) (Code.take hC) (by omega) hv (Sl.own rfl (by decide)) _ (by omega) fun L cap' p2 h21 h22 hL62 hL => ?_
    simp only [go_sem, Int.reduceToNat, List.take_nil, Nat.zero_mul, Nat.reduceEqDiff, Nat.reduceAdd, Nat.reduceLT, Nat.reduceLeDiff, Nat.reduceMul, ↓reduceIte, reduceCtorEq]
    exact Fin.pick [0, 2, 3] (.tup [.sl 1 0 S.length cap, .sl 2 0 L.length cap', .i .i64 m]) _ ⟨S, L, cap, cap', m, rfl, rfl, ⟨hS8, hS⟩, hL62, hm1, hm2⟩
theorem GlobAns.data {σ : List AB} {x : AV} {R : List (List Int)} {F : List Int} (h : GlobAns σ x R F) : x.data = true := by
  obtain ⟨v1, v2, rfl, r1, r2⟩ := h
  simp only [r1.data, r2.data, not_true_eq_false, not_false_eq_true, decide_true, decide_false, Bool.not_true, Bool.not_false, false_implies, true_implies, and_true, true_and, Bool.false_eq_true, Bool.true_eq_false, implies_true, Bool.not_not, Classical.not_not, go_sem, Int.reduceToNat, List.take_nil, Nat.zero_mul, Nat.reduceEqDiff, Nat.reduceAdd, Nat.reduceLT, Nat.reduceLeDiff, Nat.reduceMul, ↓reduceIte, reduceCtorEq]
theorem GlobAns.none {σ : List AB} (h : 0 < σ.length) : GlobAns σ (.agg [.sn, .sn]) [] [] := ⟨_, _, rfl, .inr ⟨rfl, rfl, h⟩, .inr ⟨rfl, rfl, h⟩⟩
theorem gRows_row {L : List Job} {M : Nat} (hM : M ≤ 1000) : ∀ r ∈ gRows L M, r.length ≤ 1000000 := fun r hr => by
  unfold gRows at hr
  obtain ⟨k, _, rfl⟩ := List.mem_map.1 hr
  rw [natsOf_len]
  have := (gRow_inv (L := L) (m := M) k).len
  omega
end Go.Proofs.Ytmphblbpofnpaaa
