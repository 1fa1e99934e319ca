import Derived.Test.YtnlciginmeebhaaS57
import Derived.Test.YtnlciginmeebhaaM41
namespace Go.Proofs.Ytnlciginmeebhaa
open Go.Abs Go.Ds
set_option linter.unusedSimpArgs false
set_option linter.unusedVariables false
set_option maxRecDepth 20000
set_option maxHeartbeats 1000000
def cellsSv (x : Srv) (req : AV) (s : Sv) : List AV := [.i .i64 x.B, .i .i64 x.P, .i .i64 s.left, .i .i64 s.dl, req, .i .i64 s.came, .i .i64 s.at_, .i .i64 s.done]
abbrev blkSv (x : Srv) (req : AV) (s : Sv) : AB := .rw ty_impl_server (cellsSv x req s) 8
theorem admit_step {x : Srv} {A : List Arr} {now : Int} {s : Sv} (h : s.came < A.length) (ht : (gA A s.came).t = now) : admS x A now (comes x now s) = admS x A now s := by
  unfold admS
  rw [show A.length - s.came = (A.length - (s.came + 1)) + 1 by omega]
  rw [show (comes x now s).came = s.came + 1 by unfold comes; split <;> rfl]
  rw [show admitN x A now (A.length - (s.came + 1) + 1) s = if s.came < A.length ∧ (gA A s.came).t = now then admitN x A now (A.length - (s.came + 1)) (comes x now s) else s from rfl, if_pos ⟨h, ht⟩]
theorem admit_stop {x : Srv} {A : List Arr} {now : Int} {s : Sv} (h : ¬ (s.came < A.length ∧ (gA A s.came).t = now)) : admS x A now s = s := by
  unfold admS
  cases hn : A.length - s.came with
  | zero => rfl
  | succ n => exact if_neg h
/-- What is asked of a server's state for its arithmetic. -/
structure SvB (x : Srv) (A : List Arr) (s : Sv) : Prop where
  ok : SvOk x A s
  dl : s.dl ≤ 100000
section
variable {σ τ : List AB} {k : Nat} {x : Srv} {req : AV} {A : List Arr} {s : Sv} {now : Int} {K : AV → List AB → Prop}
theorem get_set {τ : List AB} {k : Nat} {B : AB} (h : k < τ.length) : (τ.set k B)[k]? = some B := List.getElem?_set_self h
theorem impl_server_pending_ (hk : τ[k]? = some (blkSv x req s)) (hK : K (.b (pend s)) (σ ++ τ)) : CallWp Try.prog n_impl_server_pending [.p (σ.length + k) 0] (σ ++ τ) K := by
  refine callC_impl_server_pending (by simp) fun hC _ => ?_
  simp only [c_impl_server_pending, at_new, hk, cellsSv, not_true_eq_false, not_false_eq_true, decide_true, decide_false, Bool.not_true, Bool.not_false, false_implies, true_implies, and_true, true_and, Bool.false_eq_true, Bool.true_eq_false, implies_true, Bool.not_not, Classical.not_not, go_sem, Int.reduceToNat, List.take_nil, Nat.zero_mul, Nat.reduceEqDiff, Nat.reduceAdd, Nat.reduceLT, Nat.reduceLeDiff, Nat.reduceMul, ↓reduceIte, reduceCtorEq]
  refine Fin.plain ?_
  exact hK
theorem impl_server_admit_ (hR : Rd encArr σ req A) (hk : τ[k]? = some (blkSv x req s)) (hx : x.ok) (hs : SvB x A s) (hn : 0 ≤ now ∧ now ≤ 1000) (hl : A.length ≤ 1000) (hK : K (.tup []) (σ ++ τ.set k (blkSv x req (admS x A now s)))) : CallWp Try.prog n_impl_server_admit [.p (σ.length + k) 0, .i .i64 now] (σ ++ τ) K := by
  have hkl := (List.getElem?_eq_some_iff.1 hk).1
  refine callC_impl_server_admit (by simp) fun hC _ => ?_
  simp only [c_impl_server_admit, not_true_eq_false, not_false_eq_true, decide_true, decide_false, Bool.not_true, Bool.not_false, false_implies, true_implies, and_true, true_and, Bool.false_eq_true, Bool.true_eq_false, implies_true, Bool.not_not, Classical.not_not, go_sem, Int.reduceToNat, List.take_nil, Nat.zero_mul, Nat.reduceEqDiff, Nat.reduceAdd, Nat.reduceLT, Nat.reduceLeDiff, Nat.reduceMul, ↓reduceIte, reduceCtorEq]
  have hx2 := hx
  unfold Srv.ok at hx2
  refine loop_intro (fun s' : Sv => ⟨[(0, .p (σ.length + k) 0), (1, .i .i64 now)], σ ++ τ.set k (blkSv x req s')⟩) (fun s' => SvB x A s' ∧ admS x A now s' = admS x A now s) (fun s' => A.length - s'.came) s ⟨hs, rfl⟩ ?_ ?_
  · have e : τ.set k (blkSv x req s) = τ := by
      apply List.ext_getElem?
      intro i
      by_cases e : k = i
      · subst e; rw [List.getElem?_set_self hkl, hk]
      · rw [List.getElem?_set_ne e]
    rw [e]
    exact Wk.keep (by simp [look_cons])
  · rintro s' ⟨hs', he⟩
    obtain ⟨⟨h1, h2, h3, h4, h5, h6, h7⟩, h8⟩ := hs'
    have hg := get_set (B := blkSv x req s') hkl
    have hlt : (τ.set k (blkSv x req s')).length = τ.length := List.length_set ..
    have hreset := fun e : admS x A now s' = s' => e ▸ he
    rcases hR with ⟨n, o, cap, cs, rfl, hn2, hcs, hle, hw⟩ | ⟨rfl, rfl, h0⟩
    · by_cases hc : s'.came < A.length
      · obtain ⟨g1, g2⟩ := rd_at hle hw s'.came hc 0 (by decide)
        have ga : gA A s'.came = A[s'.came] := gA_mem hc
        simp only [encArr, Nat.add_zero, rd_zero] at g1 g2
        simp only [l0_impl_server_admit, at_new, hg, cellsSv, onC_old hcs, g1, g2, hc, not_true_eq_false, not_false_eq_true, decide_true, decide_false, Bool.not_true, Bool.not_false, false_implies, true_implies, and_true, true_and, Bool.false_eq_true, Bool.true_eq_false, implies_true, Bool.not_not, Classical.not_not, go_sem, Int.reduceToNat, List.take_nil, Nat.zero_mul, Nat.reduceEqDiff, Nat.reduceAdd, Nat.reduceLT, Nat.reduceLeDiff, Nat.reduceMul, ↓reduceIte, reduceCtorEq]
        refine ⟨fun ht => ?_, fun ht => ?_⟩
        · have hst := admit_step (x := x) (now := now) hc (by rw [ga]; exact ht)
          refine onCall.by (impl_server_pending_ (x := x) (s := s') (req := .sl n o A.length cap) hg ⟨rfl, rfl⟩) ?_
          have hset : ∀ B C : AB, (τ.set k B).set k C = τ.set k C := fun B C => List.set_set ..
          have hgC : ∀ B : AB, (τ.set k B)[k]? = some B := fun B => get_set hkl
          have b1 : 0 ≤ s'.left * x.P ∧ s'.left * x.P ≤ 12 * 12 := ⟨Int.mul_nonneg (by omega) (by omega), Int.mul_le_mul (by omega) (by omega) (by omega) (by omega)⟩
          have b2 : -1000 * 12 ≤ (s'.dl - now) * x.B ∧ (s'.dl - now) * x.B ≤ 1212000 := by
            have e1 : (s'.dl - now + 1000) * x.B ≤ 101000 * 12 := Int.mul_le_mul (by omega) (by omega) (by omega) (by omega)
            have e2 : 0 ≤ (s'.dl - now + 1000) * x.B := Int.mul_nonneg (by omega) (by omega)
            rw [Int.add_mul] at e1 e2
            omega
          cases hp : pend s'
          · have hp' := of_decide_eq_false hp
            simp only [at_new, set_new, hg, hgC, hset, cellsSv, not_true_eq_false, not_false_eq_true, decide_true, decide_false, Bool.not_true, Bool.not_false, false_implies, true_implies, and_true, true_and, Bool.false_eq_true, Bool.true_eq_false, implies_true, Bool.not_not, Classical.not_not, go_sem, Int.reduceToNat, List.take_nil, Nat.zero_mul, Nat.reduceEqDiff, Nat.reduceAdd, Nat.reduceLT, Nat.reduceLeDiff, Nat.reduceMul, ↓reduceIte, reduceCtorEq]
            have bcame : (0 : Int) ≤ s'.came ∧ (s'.came : Int) ≤ 1000 := by omega
            refine ⟨by omega, by omega, by omega, fun hr => ⟨by omega, by omega, comes x now s', ⟨⟨⟨SvOk.comes ⟨h1, h2, h3, h4, h5, h6, h7⟩ hx hn.1 hc, ?_⟩, hst.trans he⟩, ?_⟩, ?_⟩, fun hr => ⟨by omega, comes x now s', ⟨⟨⟨SvOk.comes ⟨h1, h2, h3, h4, h5, h6, h7⟩ hx hn.1 hc, ?_⟩, hst.trans he⟩, ?_⟩, ?_⟩⟩
            · unfold comes; rw [if_pos ⟨by omega, hr⟩]; simp only; omega
            · unfold comes; rw [if_pos ⟨by omega, hr⟩]; simp only; omega
            · unfold comes; rw [if_pos ⟨by omega, hr⟩]
              simp only [blkSv, cellsSv]
              exact Wk.keep (by simp [look_cons])
            · unfold comes; rw [if_neg (fun g => hr g.2)]; exact h8
            · unfold comes; rw [if_neg (fun g => hr g.2)]; simp only; omega
            · unfold comes; rw [if_neg (fun g => hr g.2)]
              simp only [blkSv, cellsSv]
              exact Wk.keep (by simp [look_cons])
          · have hp' := of_decide_eq_true hp
            have e : comes x now s' = ⟨s'.left, s'.dl, s'.came + 1, s'.at_, s'.done⟩ := by
              unfold comes; rw [if_neg (fun g => by have := g.1; omega)]
            simp only [at_new, set_new, hg, hgC, hset, cellsSv, not_true_eq_false, not_false_eq_true, decide_true, decide_false, Bool.not_true, Bool.not_false, false_implies, true_implies, and_true, true_and, Bool.false_eq_true, Bool.true_eq_false, implies_true, Bool.not_not, Classical.not_not, go_sem, Int.reduceToNat, List.take_nil, Nat.zero_mul, Nat.reduceEqDiff, Nat.reduceAdd, Nat.reduceLT, Nat.reduceLeDiff, Nat.reduceMul, ↓reduceIte, reduceCtorEq]
            refine ⟨by omega, comes x now s', ⟨⟨⟨SvOk.comes ⟨h1, h2, h3, h4, h5, h6, h7⟩ hx hn.1 hc, ?_⟩, hst.trans he⟩, ?_⟩, ?_⟩
            · rw [e]; exact h8
            · rw [e]; simp only; omega
            · rw [e]
              simp only [blkSv, cellsSv]
              exact Wk.keep (by simp [look_cons])
        · rw [admit_stop (fun g => ht (by rw [← ga]; exact g.2))] at he
          rw [he]
          exact Fin.plain hK
      · rw [admit_stop (fun g => hc g.1)] at he
        simp only [l0_impl_server_admit, at_new, hg, cellsSv, hc, not_true_eq_false, not_false_eq_true, decide_true, decide_false, Bool.not_true, Bool.not_false, false_implies, true_implies, and_true, true_and, Bool.false_eq_true, Bool.true_eq_false, implies_true, Bool.not_not, Classical.not_not, go_sem, Int.reduceToNat, List.take_nil, Nat.zero_mul, Nat.reduceEqDiff, Nat.reduceAdd, Nat.reduceLT, Nat.reduceLeDiff, Nat.reduceMul, ↓reduceIte, reduceCtorEq]
        rw [he]
        exact Fin.plain hK
    · rw [admit_stop (fun g => absurd g.1 (Nat.not_lt_zero _))] at he
      simp only [l0_impl_server_admit, at_new, hg, cellsSv, not_true_eq_false, not_false_eq_true, decide_true, decide_false, Bool.not_true, Bool.not_false, false_implies, true_implies, and_true, true_and, Bool.false_eq_true, Bool.true_eq_false, implies_true, Bool.not_not, Classical.not_not, go_sem, Int.reduceToNat, List.take_nil, Nat.zero_mul, Nat.reduceEqDiff, Nat.reduceAdd, Nat.reduceLT, Nat.reduceLeDiff, Nat.reduceMul, ↓reduceIte, reduceCtorEq]
      exact ⟨fun h => absurd h (by omega), fun _ => he ▸ Fin.plain hK⟩
theorem impl_server_serve_ (hR : Rd encArr σ req A) (hk : τ[k]? = some (blkSv x req s)) (hx : x.ok) (hs : SvB x A s) (hp : pend s = true) (hd : s.done ≤ 1000) (hl : A.length ≤ 1000) (hK : K (.b (ends A s)) (σ ++ τ.set k (blkSv x req (Go.Ds.serve x A s)))) : CallWp Try.prog n_impl_server_serve [.p (σ.length + k) 0] (σ ++ τ) K := by
  have hkl := (List.getElem?_eq_some_iff.1 hk).1
  have hx2 := hx
  unfold Srv.ok at hx2
  have hp := of_decide_eq_true hp
  obtain ⟨⟨h1, h2, h3, h4, h5, h6, h7⟩, h8⟩ := hs
  have hset : ∀ B C : AB, (τ.set k B).set k C = τ.set k C := fun B C => List.set_set ..
  have hgC : ∀ B : AB, (τ.set k B)[k]? = some B := fun B => get_set hkl
  refine callC_impl_server_serve (by simp) fun hC _ => ?_
  simp only [c_impl_server_serve, at_new, set_new, hk, hgC, hset, cellsSv, not_true_eq_false, not_false_eq_true, decide_true, decide_false, Bool.not_true, Bool.not_false, false_implies, true_implies, and_true, true_and, Bool.false_eq_true, Bool.true_eq_false, implies_true, Bool.not_not, Classical.not_not, go_sem, Int.reduceToNat, List.take_nil, Nat.zero_mul, Nat.reduceEqDiff, Nat.reduceAdd, Nat.reduceLT, Nat.reduceLeDiff, Nat.reduceMul, ↓reduceIte, reduceCtorEq]
  refine ⟨by omega, ?_⟩
  refine seq_join (fun _ : Unit => ⟨[(0, .p (σ.length + k) 0)], σ ++ τ.set k (.rw ty_impl_server [.i .i64 x.B, .i .i64 x.P, .i .i64 (Go.Ds.serve x A s).left, .i .i64 (Go.Ds.serve x A s).dl, req, .i .i64 s.came, .i .i64 s.at_, .i .i64 s.done] 8)⟩) (fun _ => True) ?_ fun _ _ => ?_
  · have e1 : (Go.Ds.serve x A s).left = if s.left - 1 = 0 then x.B else s.left - 1 := rfl
    have e2 : (Go.Ds.serve x A s).dl = if s.left - 1 = 0 then s.dl + x.P else s.dl := rfl
    rw [e1, e2]
    simp only [at_new, set_new, hk, hgC, hset, not_true_eq_false, not_false_eq_true, decide_true, decide_false, Bool.not_true, Bool.not_false, false_implies, true_implies, and_true, true_and, Bool.false_eq_true, Bool.true_eq_false, implies_true, Bool.not_not, Classical.not_not, go_sem, Int.reduceToNat, List.take_nil, Nat.zero_mul, Nat.reduceEqDiff, Nat.reduceAdd, Nat.reduceLT, Nat.reduceLeDiff, Nat.reduceMul, ↓reduceIte, reduceCtorEq]
    refine ⟨fun h0 => ?_, fun h0 => ?_⟩
    · rw [if_pos h0, if_pos h0]
      exact ⟨by omega, kJ_intro () trivial (Wk.keep (by simp [look_cons]))⟩
    · rw [if_neg h0, if_neg h0]
      exact kJ_intro () trivial (Wk.keep (by simp [look_cons]))
  · generalize hl' : (Go.Ds.serve x A s).left = l' at *
    generalize hd' : (Go.Ds.serve x A s).dl = d' at *
    have hat : s.at_ < A.length := by omega
    rcases hR with ⟨n, o, cap, cs, rfl, hn2, hcs, hle, hw⟩ | ⟨rfl, rfl, h0⟩
    · obtain ⟨g1, g2⟩ := rd_at hle hw s.at_ hat 1 (by decide)
      have ga : gA A s.at_ = A[s.at_] := gA_mem hat
      simp only [encArr, rd_zero, rd_succ] at g1 g2
      simp only [at_new, set_new, hk, hgC, hset, onC_old hcs, g1, g2, hat, Int.toNat_natCast, not_true_eq_false, not_false_eq_true, decide_true, decide_false, Bool.not_true, Bool.not_false, false_implies, true_implies, and_true, true_and, Bool.false_eq_true, Bool.true_eq_false, implies_true, Bool.not_not, Classical.not_not, go_sem, Int.reduceToNat, List.take_nil, Nat.zero_mul, Nat.reduceEqDiff, Nat.reduceAdd, Nat.reduceLT, Nat.reduceLeDiff, Nat.reduceMul, ↓reduceIte, reduceCtorEq]
      have hes : ends A s = decide (¬ s.done + 1 < A[s.at_].e) := by
        unfold ends; rw [ga]; exact decide_eq_decide.2 (by omega)
      refine ⟨by omega, fun hlt => ?_, fun hge => ⟨by omega, ?_⟩⟩
      · have he : ends A s = false := by rw [hes]; exact decide_eq_false (by omega)
        have e3 : Go.Ds.serve x A s = ⟨l', d', s.came, s.at_, s.done + 1⟩ := by
          rw [← hl', ← hd']; unfold Go.Ds.serve; rw [he]; rfl
        rw [he, e3] at hK
        exact Fin.plain hK
      · have he : ends A s = true := by rw [hes]; exact decide_eq_true (by omega)
        have e3 : Go.Ds.serve x A s = ⟨l', d', s.came, s.at_ + 1, 0⟩ := by
          rw [← hl', ← hd']; unfold Go.Ds.serve; rw [he]; rfl
        rw [he, e3] at hK
        exact Fin.plain hK
    · exact absurd hat (Nat.not_lt_zero _)
end
end Go.Proofs.Ytnlciginmeebhaa
